/- Texts joined: Ug. -/
import Derived.Test.YtlebigkdpalhjaaDoorY4
set_option linter.unusedVariables false
set_option linter.unusedSimpArgs false
set_option maxHeartbeats 20000000
set_option maxRecDepth 100000
namespace Go.X
open Go.Proofs.Tryd (prog)

theorem doA_errN {l : List Pr} {op : Opn} (hl : Asc l) (hm : mayOpB op = true) : (doA l op).err = 0 := by
  have hk : okOp l op = true := by rw [okOp, hm, bof_true ((rises_asc l).2 hl)]; rfl
  rw [doA, if_neg (by simp [hk])]
  split
  · rfl
  · split
    · rfl
    · split
      · split <;> rfl
      · split
        · split <;> rfl
        · rw [ansAt]; split <;> rfl
theorem sgoes_done (C : List Cl) (hC : C.length ≤ 16) (d : Nat) (hd : d < 65536) (hn : ¬ dueP C d) (M : Mem) (ids idm idp : Nat) (o : Lf) (hM : M ids = some (.cells 58 [sRow C idm o] 0)) :
    XCalls Go.Proofs.Tryd.prog 22 [.l (.ptr ids 0 0), .l (.int .i64 d), .l (.ptr idp 0 0)] M fun r M' => r = .l (.bool true) ∧ M' = M := by
  refine xcalls_intro (rs := [.tmp 6]) Go.Proofs.Tryd.func22 rfl (by kernel_rfl) rfl rfl (by kernel_rfl) (by simp) ?_
  simp -implicitDefEqProofs (maxSteps := 1000000) (disch := omega) only [↓xsP, ↓vc_seq, xsQ, xsT, xsR, xsD, ↓reduceIte, reduceCtorEq, eq_self, ne_eq, imp_self, forall_const, Nat.reduceEqDiff, Nat.reduceAdd, Nat.reduceSub, Nat.reduceMul, Nat.reduceLT, Nat.reduceLeDiff, Nat.reduceBEq, Nat.reduceDiv, Nat.reduceMod, Int.reduceToNat, Int.reduceNeg, Int.reduceAdd, Int.reduceSub, Int.reduceMul, Int.reduceEq, Int.reduceNe, Int.reduceLT, Int.reduceLE, Int.reduceGT, Int.reduceGE]
  refine call_of (due_spec C hC d hd ids idm o _ hM) ?_
  rw [bof_false hn]
  simp -implicitDefEqProofs (maxSteps := 1000000) (disch := omega) only [↓xsP, ↓vc_seq, xsQ, xsT, xsR, xsD, ↓reduceIte, reduceCtorEq, eq_self, ne_eq, imp_self, forall_const, Nat.reduceEqDiff, Nat.reduceAdd, Nat.reduceSub, Nat.reduceMul, Nat.reduceLT, Nat.reduceLeDiff, Nat.reduceBEq, Nat.reduceDiv, Nat.reduceMod, Int.reduceToNat, Int.reduceNeg, Int.reduceAdd, Int.reduceSub, Int.reduceMul, Int.reduceEq, Int.reduceNe, Int.reduceLT, Int.reduceLE, Int.reduceGT, Int.reduceGE]
  exact fin_ok (Mem.le_refl _) ⟨rfl, rfl⟩
theorem small_nil : Small [] := ⟨by decide, fun x hx => by cases hx⟩
theorem callsP_nil : callsP [] = [] := rfl
/-- Find of a history in which nothing happened. -/
theorem lfind_nil (b : List Pr) (hb : b.length ≤ 8796093022200) (M : Mem) :
    XCalls Go.Proofs.Tryd.prog 14 [.l (.sl (b.map Pr.row)), .l (.sl [])] M fun r M' => M' = M ∧ ∃ ok e, (¬ Rises b → ok = false ∧ e = 1) ∧ r = .tup [.l (.sl []), .l (.bool ok), .l (.int .i64 e)] := by
  refine xcalls_intro (rs := [.tmp 4, .tmp 5, .tmp 6]) Go.Proofs.Tryd.func14 rfl (by kernel_rfl) rfl rfl (by kernel_rfl) (by simp) ?_
  simp -implicitDefEqProofs (maxSteps := 1000000) (disch := omega) only [↓xsP, ↓vc_seq, xsQ, xsT, xsR, xsD, ↓reduceIte, reduceCtorEq, eq_self, ne_eq, imp_self, forall_const, Nat.reduceEqDiff, Nat.reduceAdd, Nat.reduceSub, Nat.reduceMul, Nat.reduceLT, Nat.reduceLeDiff, Nat.reduceBEq, Nat.reduceDiv, Nat.reduceMod, Int.reduceToNat, Int.reduceNeg, Int.reduceAdd, Int.reduceSub, Int.reduceMul, Int.reduceEq, Int.reduceNe, Int.reduceLT, Int.reduceLE, Int.reduceGT, Int.reduceGE]
  refine call_of (pcalls_spec [] small_nil _) ?_
  rw [callsP_nil]
  simp -implicitDefEqProofs (maxSteps := 1000000) (disch := omega) only [↓xsP, ↓vc_seq, xsQ, xsT, xsR, xsD, ↓reduceIte, reduceCtorEq, eq_self, ne_eq, imp_self, forall_const, Nat.reduceEqDiff, Nat.reduceAdd, Nat.reduceSub, Nat.reduceMul, Nat.reduceLT, Nat.reduceLeDiff, Nat.reduceBEq, Nat.reduceDiv, Nat.reduceMod, Int.reduceToNat, Int.reduceNeg, Int.reduceAdd, Int.reduceSub, Int.reduceMul, Int.reduceEq, Int.reduceNe, Int.reduceLT, Int.reduceLE, Int.reduceGT, Int.reduceGE]
  refine newI_intro fun idm hidm => ?_
  simp -implicitDefEqProofs (maxSteps := 1000000) (disch := omega) only [↓xsP, ↓vc_seq, xsQ, xsT, xsR, xsD, ↓reduceIte, reduceCtorEq, eq_self, ne_eq, imp_self, forall_const, Nat.reduceEqDiff, Nat.reduceAdd, Nat.reduceSub, Nat.reduceMul, Nat.reduceLT, Nat.reduceLeDiff, Nat.reduceBEq, Nat.reduceDiv, Nat.reduceMod, Int.reduceToNat, Int.reduceNeg, Int.reduceAdd, Int.reduceSub, Int.reduceMul, Int.reduceEq, Int.reduceNe, Int.reduceLT, Int.reduceLE, Int.reduceGT, Int.reduceGE]
  refine newI_intro fun ids hids => ?_
  obtain ⟨kms, hidsM⟩ := bnd_new hids
  simp -implicitDefEqProofs (maxSteps := 1000000) (disch := omega) only [↓xsP, ↓vc_seq, xsQ, xsT, xsR, xsD, ↓reduceIte, reduceCtorEq, eq_self, ne_eq, imp_self, forall_const, Nat.reduceEqDiff, Nat.reduceAdd, Nat.reduceSub, Nat.reduceMul, Nat.reduceLT, Nat.reduceLeDiff, Nat.reduceBEq, Nat.reduceDiv, Nat.reduceMod, Int.reduceToNat, Int.reduceNeg, Int.reduceAdd, Int.reduceSub, Int.reduceMul, Int.reduceEq, Int.reduceNe, Int.reduceLT, Int.reduceLE, Int.reduceGT, Int.reduceGE]
  have hle : ∀ X Y : Blk, M.le ((M.set idm X).set ids Y) := fun X Y => le_new (le_new (Mem.le_refl _) hidm) hidsM
  refine call_of (may_spec b (by omega) _) ?_
  by_cases hR : Rises b
  rotate_left
  · rw [bof_false hR]
    simp -implicitDefEqProofs (maxSteps := 1000000) (disch := omega) only [↓xsP, ↓vc_seq, xsQ, xsT, xsR, xsD, ↓reduceIte, reduceCtorEq, eq_self, ne_eq, imp_self, forall_const, Nat.reduceEqDiff, Nat.reduceAdd, Nat.reduceSub, Nat.reduceMul, Nat.reduceLT, Nat.reduceLeDiff, Nat.reduceBEq, Nat.reduceDiv, Nat.reduceMod, Int.reduceToNat, Int.reduceNeg, Int.reduceAdd, Int.reduceSub, Int.reduceMul, Int.reduceEq, Int.reduceNe, Int.reduceLT, Int.reduceLE, Int.reduceGT, Int.reduceGE]
    exact finI_of (XFin.wk (XFin.le (hle _ _) ⟨rfl, false, 1, fun _ => ⟨rfl, rfl⟩, rfl⟩))
  rw [bof_true hR]
  simp -implicitDefEqProofs (maxSteps := 1000000) (disch := omega) only [↓xsP, ↓vc_seq, xsQ, xsT, xsR, xsD, ↓reduceIte, reduceCtorEq, eq_self, ne_eq, imp_self, forall_const, Nat.reduceEqDiff, Nat.reduceAdd, Nat.reduceSub, Nat.reduceMul, Nat.reduceLT, Nat.reduceLeDiff, Nat.reduceBEq, Nat.reduceDiv, Nat.reduceMod, Int.reduceToNat, Int.reduceNeg, Int.reduceAdd, Int.reduceSub, Int.reduceMul, Int.reduceEq, Int.reduceNe, Int.reduceLT, Int.reduceLE, Int.reduceGT, Int.reduceGE]
  refine call_of (pmay_spec [] small_nil _) ?_
  rw [show okP [] = true from rfl]
  simp -implicitDefEqProofs (maxSteps := 1000000) (disch := omega) only [↓xsP, ↓vc_seq, xsQ, xsT, xsR, xsD, ↓reduceIte, reduceCtorEq, eq_self, ne_eq, imp_self, forall_const, Nat.reduceEqDiff, Nat.reduceAdd, Nat.reduceSub, Nat.reduceMul, Nat.reduceLT, Nat.reduceLeDiff, Nat.reduceBEq, Nat.reduceDiv, Nat.reduceMod, Int.reduceToNat, Int.reduceNeg, Int.reduceAdd, Int.reduceSub, Int.reduceMul, Int.reduceEq, Int.reduceNe, Int.reduceLT, Int.reduceLE, Int.reduceGT, Int.reduceGE, Int.cast_ofNat_Int]
  refine callI_of ((new_spec b (by omega) _).mono ?_)
  rintro _ _ ⟨idp, hidp, rfl, rfl⟩
  obtain ⟨ksp, hidpM⟩ := bnd_new hidp
  obtain ⟨kmp, hidpM⟩ := bnd_new hidpM
  simp -implicitDefEqProofs (maxSteps := 1000000) (disch := omega) only [↓xsP, ↓vc_seq, xsQ, xsT, xsR, xsD, ↓reduceIte, reduceCtorEq, eq_self, ne_eq, imp_self, forall_const, Nat.reduceEqDiff, Nat.reduceAdd, Nat.reduceSub, Nat.reduceMul, Nat.reduceLT, Nat.reduceLeDiff, Nat.reduceBEq, Nat.reduceDiv, Nat.reduceMod, Int.reduceToNat, Int.reduceNeg, Int.reduceAdd, Int.reduceSub, Int.reduceMul, Int.reduceEq, Int.reduceNe, Int.reduceLT, Int.reduceLE, Int.reduceGT, Int.reduceGE]
  refine call_of (sgoes_done [] (by decide) 0 (by decide) (fun ⟨j, hj, _⟩ => by simp at hj) _ ids idm idp .nils (by rw [Mem.set_ne _ _ _ _ (by omega), Mem.set_eq]; rfl)) ?_
  simp -implicitDefEqProofs (maxSteps := 1000000) (disch := omega) only [↓xsP, ↓vc_seq, xsQ, xsT, xsR, xsD, ↓reduceIte, reduceCtorEq, eq_self, ne_eq, imp_self, forall_const, Nat.reduceEqDiff, Nat.reduceAdd, Nat.reduceSub, Nat.reduceMul, Nat.reduceLT, Nat.reduceLeDiff, Nat.reduceBEq, Nat.reduceDiv, Nat.reduceMod, Int.reduceToNat, Int.reduceNeg, Int.reduceAdd, Int.reduceSub, Int.reduceMul, Int.reduceEq, Int.reduceNe, Int.reduceLT, Int.reduceLE, Int.reduceGT, Int.reduceGE]
  refine finI_of (XFin.wk (XFin.le (fun k bk hk => ?_) ⟨rfl, true, 0, fun h => absurd hR h, rfl⟩))
  have h1 := hle (.map []) (.cells 58 [[.sl [], .mp idm, .nils]] 0) _ _ hk
  have := lt_of_bnd hidp h1
  rw [Mem.set_ne _ _ _ _ (by omega)]
  exact h1
def mkOp (i : Nat) : Opn := ⟨((1 + i % 8 : Nat) : Int), ((i % 3 : Nat) : Int), 2, (i : Int)⟩
def manyOps (n : Nat) : List Opn := (List.range n).map mkOp
theorem manyOps_len (n : Nat) : (manyOps n).length = n := by simp [manyOps]
theorem manyOps_succ (n : Nat) : manyOps (n + 1) = manyOps n ++ [mkOp n] := by simp [manyOps, List.range_succ]
theorem mkOp_may : ∀ i, i < 24 → mayOpB (mkOp i) = true := by decide
theorem rowsP' (l : List Pr) : ∀ r ∈ l.map Pr.row, r.length = 2 := by
  intro r hr
  obtain ⟨p, _, rfl⟩ := List.mem_map.1 hr
  rfl
theorem seq_small {b : List Pr} {L : List (Opn × Ans)} (hl : L.length ≤ 100) (hp : ∀ x ∈ L, x.2.pairs.length ≤ 1000) : ∀ i, Small (seqE i L) := by
  induction L with
  | nil => exact fun _ => small_nil
  | cons x r ih =>
    intro i
    have ih' := ih (by simp at hl; omega) (fun y hy => hp y (by simp [hy])) (i + 1)
    refine ⟨by rw [seqE_len]; omega, fun y hy => ?_⟩
    rw [seqE] at hy
    rcases List.mem_cons.1 hy with rfl | hy
    · exact Nat.zero_le _
    rcases List.mem_cons.1 hy with rfl | hy
    · have := hp x (by simp)
      show x.2.pairs.length ≤ _
      omega
    · exact ih'.2 y hy
theorem seqE_mem {P : Evt → Prop} : ∀ {i : Nat} {L : List (Opn × Ans)}, (∀ x ∈ L, ∀ t : Int, P ⟨t, false, x.1, ans0⟩ ∧ P ⟨t, true, x.1, x.2⟩) → ∀ e ∈ seqE i L, P e
  | _, [], _, e, he => by cases he
  | i, x :: r, h, e, he => by
    rw [seqE] at he
    rcases List.mem_cons.1 he with rfl | he
    · exact (h x (by simp) _).1
    rcases List.mem_cons.1 he with rfl | he
    · exact (h x (by simp) _).2
    · exact seqE_mem (fun y hy => h y (by simp [hy])) e he
theorem toldL_mem {b : List Pr} {ops : List Opn} {x : Opn × Ans} (hx : x ∈ toldL b ops) : ∃ j, j < ops.length ∧ x = (ops.getD j default, doA (runL b (ops.take j)) (ops.getD j default)) := by
  obtain ⟨j, hj, rfl⟩ := List.getElem_of_mem hx
  have hj' : j < ops.length := by rwa [toldL_len] at hj
  refine ⟨j, hj', ?_⟩
  rw [← toldL_get b ops j hj', List.getD_eq_getElem?_getD, List.getElem?_eq_getElem hj]
  rfl
theorem told_ok {b : List Pr} {ops : List Opn} (hb : Asc b) (hbl : b.length ≤ 30) (hl : ops.length ≤ 24) (hm : ∀ o ∈ ops, mayOpB o = true) :
    (∀ x ∈ toldL b ops, mayOpB x.1 = true) ∧ (∀ x ∈ toldL b ops, x.2.err = 0) ∧ (∀ x ∈ toldL b ops, x.2.pairs.length ≤ 54) := by
  refine ⟨fun x hx => ?_, fun x hx => ?_, fun x hx => ?_⟩ <;> obtain ⟨j, hj, rfl⟩ := toldL_mem hx
  · exact hm _ (getD_mem' ops default hj)
  · exact doA_errN (runL_asc hb _) (hm _ (getD_mem' ops default hj))
  · have h1 := doA_lenO (runL b (ops.take j)) (ops.getD j default)
    have h2 := runL_len b (ops.take j)
    rw [List.length_take] at h2
    show (doA (runL b (ops.take j)) (ops.getD j default)).pairs.length ≤ 54
    omega
theorem linMany_walk (b : List Pr) (n0 : Int) (hb : b.length ≤ 8796093022200) (hbi : ∀ p ∈ b, IntOk' p.key ∧ IntOk' p.val) (M : Mem) :
    XCalls Go.Proofs.Tryd.prog 4 [.l (.sl (b.map Pr.row)), .l (.int .i64 n0)] M fun r M' => r = .l (.bool true) ∧ M' = M := by
  refine xcalls_intro (rs := [.tmp 4]) Go.Proofs.Tryd.func4 rfl (by kernel_rfl) rfl rfl (by kernel_rfl) (by simp) ?_
  have hrn := rem_u64c n0 24 (by decide) (by decide) 24 rfl
  have hn := ridx_lt n0 (n := 24) (by decide)
  generalize ridx n0 24 = n at hrn hn
  have hw : IntKind.i64.wrap (n : Int) = (n : Int) := wrap_in (by omega) (by omega)
  simp -implicitDefEqProofs (maxSteps := 1000000) (disch := omega) only [↓xsP, ↓vc_seq, xsQ, xsT, xsR, xsD, ↓reduceIte, reduceCtorEq, eq_self, ne_eq, imp_self, forall_const, Nat.reduceEqDiff, Nat.reduceAdd, Nat.reduceSub, Nat.reduceMul, Nat.reduceLT, Nat.reduceLeDiff, Nat.reduceBEq, Nat.reduceDiv, Nat.reduceMod, Int.reduceToNat, Int.reduceNeg, Int.reduceAdd, Int.reduceSub, Int.reduceMul, Int.reduceEq, Int.reduceNe, Int.reduceLT, Int.reduceLE, Int.reduceGT, Int.reduceGE, hrn, hw]
  have hend : ∀ {K : AV → Mem → Prop}, (K (.l (.bool true)) M) → @callI Go.Proofs.Tryd.prog 11 [] M ⟨K⟩ := fun h => call_of (awake20_spec _) h
  by_cases h1 : b.length ≤ 30
  rotate_left
  · have q1 : decide ((b.length : Int) > 30) = true := decide_eq_true (by omega)
    simp -implicitDefEqProofs (maxSteps := 1000000) (disch := omega) only [↓xsP, ↓vc_seq, xsQ, xsT, xsR, xsD, ↓reduceIte, reduceCtorEq, eq_self, ne_eq, imp_self, forall_const, Nat.reduceEqDiff, Nat.reduceAdd, Nat.reduceSub, Nat.reduceMul, Nat.reduceLT, Nat.reduceLeDiff, Nat.reduceBEq, Nat.reduceDiv, Nat.reduceMod, Int.reduceToNat, Int.reduceNeg, Int.reduceAdd, Int.reduceSub, Int.reduceMul, Int.reduceEq, Int.reduceNe, Int.reduceLT, Int.reduceLE, Int.reduceGT, Int.reduceGE, q1]
    refine callI_of ((XCalls.wk (lfind_nil b hb _)).mono ?_)
    rintro _ M ⟨rfl, ok, e, -, rfl⟩
    simp -implicitDefEqProofs (maxSteps := 1000000) (disch := omega) only [↓xsP, ↓vc_seq, xsQ, xsT, xsR, xsD, ↓reduceIte, reduceCtorEq, eq_self, ne_eq, imp_self, forall_const, Nat.reduceEqDiff, Nat.reduceAdd, Nat.reduceSub, Nat.reduceMul, Nat.reduceLT, Nat.reduceLeDiff, Nat.reduceBEq, Nat.reduceDiv, Nat.reduceMod, Int.reduceToNat, Int.reduceNeg, Int.reduceAdd, Int.reduceSub, Int.reduceMul, Int.reduceEq, Int.reduceNe, Int.reduceLT, Int.reduceLE, Int.reduceGT, Int.reduceGE, q1]
    refine hend ?_
    simp -implicitDefEqProofs (maxSteps := 1000000) (disch := omega) only [↓xsP, ↓vc_seq, xsQ, xsT, xsR, xsD, ↓reduceIte, reduceCtorEq, eq_self, ne_eq, imp_self, forall_const, Nat.reduceEqDiff, Nat.reduceAdd, Nat.reduceSub, Nat.reduceMul, Nat.reduceLT, Nat.reduceLeDiff, Nat.reduceBEq, Nat.reduceDiv, Nat.reduceMod, Int.reduceToNat, Int.reduceNeg, Int.reduceAdd, Int.reduceSub, Int.reduceMul, Int.reduceEq, Int.reduceNe, Int.reduceLT, Int.reduceLE, Int.reduceGT, Int.reduceGE]
    exact fin_ok (Mem.le_refl _) ⟨rfl, rfl⟩
  have q1 : decide ((b.length : Int) > 30) = false := decide_eq_false (by omega)
  simp -implicitDefEqProofs (maxSteps := 1000000) (disch := omega) only [↓xsP, ↓vc_seq, xsQ, xsT, xsR, xsD, ↓reduceIte, reduceCtorEq, eq_self, ne_eq, imp_self, forall_const, Nat.reduceEqDiff, Nat.reduceAdd, Nat.reduceSub, Nat.reduceMul, Nat.reduceLT, Nat.reduceLeDiff, Nat.reduceBEq, Nat.reduceDiv, Nat.reduceMod, Int.reduceToNat, Int.reduceNeg, Int.reduceAdd, Int.reduceSub, Int.reduceMul, Int.reduceEq, Int.reduceNe, Int.reduceLT, Int.reduceLE, Int.reduceGT, Int.reduceGE, q1, hrn, hw]
  refine call_of (mayPairs_spec b (by omega) _) ?_
  by_cases hR : Rises b
  rotate_left
  · rw [bof_false hR]
    simp -implicitDefEqProofs (maxSteps := 1000000) (disch := omega) only [↓xsP, ↓vc_seq, xsQ, xsT, xsR, xsD, ↓reduceIte, reduceCtorEq, eq_self, ne_eq, imp_self, forall_const, Nat.reduceEqDiff, Nat.reduceAdd, Nat.reduceSub, Nat.reduceMul, Nat.reduceLT, Nat.reduceLeDiff, Nat.reduceBEq, Nat.reduceDiv, Nat.reduceMod, Int.reduceToNat, Int.reduceNeg, Int.reduceAdd, Int.reduceSub, Int.reduceMul, Int.reduceEq, Int.reduceNe, Int.reduceLT, Int.reduceLE, Int.reduceGT, Int.reduceGE, q1]
    refine callI_of ((XCalls.wk (lfind_nil b hb _)).mono ?_)
    rintro _ M ⟨rfl, ok, e, hbad, rfl⟩
    obtain ⟨rfl, rfl⟩ := hbad hR
    simp -implicitDefEqProofs (maxSteps := 1000000) (disch := omega) only [↓xsP, ↓vc_seq, xsQ, xsT, xsR, xsD, ↓reduceIte, reduceCtorEq, eq_self, ne_eq, imp_self, forall_const, Nat.reduceEqDiff, Nat.reduceAdd, Nat.reduceSub, Nat.reduceMul, Nat.reduceLT, Nat.reduceLeDiff, Nat.reduceBEq, Nat.reduceDiv, Nat.reduceMod, Int.reduceToNat, Int.reduceNeg, Int.reduceAdd, Int.reduceSub, Int.reduceMul, Int.reduceEq, Int.reduceNe, Int.reduceLT, Int.reduceLE, Int.reduceGT, Int.reduceGE, q1]
    refine hend ?_
    simp -implicitDefEqProofs (maxSteps := 1000000) (disch := omega) only [↓xsP, ↓vc_seq, xsQ, xsT, xsR, xsD, ↓reduceIte, reduceCtorEq, eq_self, ne_eq, imp_self, forall_const, Nat.reduceEqDiff, Nat.reduceAdd, Nat.reduceSub, Nat.reduceMul, Nat.reduceLT, Nat.reduceLeDiff, Nat.reduceBEq, Nat.reduceDiv, Nat.reduceMod, Int.reduceToNat, Int.reduceNeg, Int.reduceAdd, Int.reduceSub, Int.reduceMul, Int.reduceEq, Int.reduceNe, Int.reduceLT, Int.reduceLE, Int.reduceGT, Int.reduceGE]
    exact fin_ok (Mem.le_refl _) ⟨rfl, rfl⟩
  have hasc := (rises_asc b).1 hR
  rw [bof_true hR]
  simp -implicitDefEqProofs (maxSteps := 1000000) (disch := omega) only [↓xsP, ↓vc_seq, xsQ, xsT, xsR, xsD, ↓reduceIte, reduceCtorEq, eq_self, ne_eq, imp_self, forall_const, Nat.reduceEqDiff, Nat.reduceAdd, Nat.reduceSub, Nat.reduceMul, Nat.reduceLT, Nat.reduceLeDiff, Nat.reduceBEq, Nat.reduceDiv, Nat.reduceMod, Int.reduceToNat, Int.reduceNeg, Int.reduceAdd, Int.reduceSub, Int.reduceMul, Int.reduceEq, Int.reduceNe, Int.reduceLT, Int.reduceLE, Int.reduceGT, Int.reduceGE, q1, hrn, hw]
  refine newI_intro fun pb hpb => ?_
  simp -implicitDefEqProofs (maxSteps := 1000000) (disch := omega) only [↓xsP, ↓vc_seq, xsQ, xsT, xsR, xsD, ↓reduceIte, reduceCtorEq, eq_self, ne_eq, imp_self, forall_const, Nat.reduceEqDiff, Nat.reduceAdd, Nat.reduceSub, Nat.reduceMul, Nat.reduceLT, Nat.reduceLeDiff, Nat.reduceBEq, Nat.reduceDiv, Nat.reduceMod, Int.reduceToNat, Int.reduceNeg, Int.reduceAdd, Int.reduceSub, Int.reduceMul, Int.reduceEq, Int.reduceNe, Int.reduceLT, Int.reduceLE, Int.reduceGT, Int.reduceGE, q1, hrn, hw]
  refine app_mk2 ti_22 rfl ti_32 (by kernel_rfl) (by decide) (by decide) (rowsP' b) hpb (by simp; omega) (fun idA N hidA hNA hMN => ?_)
  simp -implicitDefEqProofs (maxSteps := 1000000) (disch := omega) only [↓xsP, ↓vc_seq, xsQ, xsT, xsR, xsD, ↓reduceIte, reduceCtorEq, eq_self, ne_eq, imp_self, forall_const, Nat.reduceEqDiff, Nat.reduceAdd, Nat.reduceSub, Nat.reduceMul, Nat.reduceLT, Nat.reduceLeDiff, Nat.reduceBEq, Nat.reduceDiv, Nat.reduceMod, Int.reduceToNat, Int.reduceNeg, Int.reduceAdd, Int.reduceSub, Int.reduceMul, Int.reduceEq, Int.reduceNe, Int.reduceLT, Int.reduceLE, Int.reduceGT, Int.reduceGE, q1, hrn, hw]
  obtain ⟨B, eB, hBA, hMB⟩ : ∃ B, B = N.set idA (.cells 32 (b.map Pr.row) (max 0 (b.map Pr.row).length)) ∧ B idA = some (.cells 32 (b.map Pr.row) (max 0 (b.map Pr.row).length)) ∧ M.le B := ⟨_, rfl, Mem.set_eq _ _ _, fun k bk hk => by
    have := lt_of_bnd hidA hk
    rw [Mem.set_ne _ _ _ _ (by omega)]
    exact hMN _ _ hk⟩
  refine loopI_gs (GStep.frz hNA) ?_
  rw [← eB]
  have hIs : IsK B (.ms idA 0 (b.map Pr.row).length) b := .inr ⟨idA, _, hBA, by simp, by simp⟩
  refine xloop (by kernel_rfl) (fun k fr M2 => ∃ (i : Nat) (xm xh : Lf), i ≤ n ∧ k = n - i ∧ fr 0 = .l (.sl (b.map Pr.row)) ∧ fr 1 = .l (.int .i64 n) ∧ fr 8 = .l xh ∧ fr 9 = .l xm ∧ fr 56 = .l (.int .i64 n) ∧ fr 57 = .l (.int .i64 i) ∧ IsK B xm (runL b (manyOps i)) ∧ EvB B M2 xh (seqE 0 (toldL b (manyOps i)))) n ?_ ?_
  · exact ⟨0, _, .nils, Nat.zero_le _, rfl, by simp -implicitDefEqProofs (maxSteps := 1000000) (disch := omega) only [↓xsP, ↓vc_seq, xsQ, xsT, xsR, xsD, ↓reduceIte, reduceCtorEq, eq_self, ne_eq, imp_self, forall_const, Nat.reduceEqDiff, Nat.reduceAdd, Nat.reduceSub, Nat.reduceMul, Nat.reduceLT, Nat.reduceLeDiff, Nat.reduceBEq, Nat.reduceDiv, Nat.reduceMod, Int.reduceToNat, Int.reduceNeg, Int.reduceAdd, Int.reduceSub, Int.reduceMul, Int.reduceEq, Int.reduceNe, Int.reduceLT, Int.reduceLE, Int.reduceGT, Int.reduceGE], by simp -implicitDefEqProofs (maxSteps := 1000000) (disch := omega) only [↓xsP, ↓vc_seq, xsQ, xsT, xsR, xsD, ↓reduceIte, reduceCtorEq, eq_self, ne_eq, imp_self, forall_const, Nat.reduceEqDiff, Nat.reduceAdd, Nat.reduceSub, Nat.reduceMul, Nat.reduceLT, Nat.reduceLeDiff, Nat.reduceBEq, Nat.reduceDiv, Nat.reduceMod, Int.reduceToNat, Int.reduceNeg, Int.reduceAdd, Int.reduceSub, Int.reduceMul, Int.reduceEq, Int.reduceNe, Int.reduceLT, Int.reduceLE, Int.reduceGT, Int.reduceGE], by simp -implicitDefEqProofs (maxSteps := 1000000) (disch := omega) only [↓xsP, ↓vc_seq, xsQ, xsT, xsR, xsD, ↓reduceIte, reduceCtorEq, eq_self, ne_eq, imp_self, forall_const, Nat.reduceEqDiff, Nat.reduceAdd, Nat.reduceSub, Nat.reduceMul, Nat.reduceLT, Nat.reduceLeDiff, Nat.reduceBEq, Nat.reduceDiv, Nat.reduceMod, Int.reduceToNat, Int.reduceNeg, Int.reduceAdd, Int.reduceSub, Int.reduceMul, Int.reduceEq, Int.reduceNe, Int.reduceLT, Int.reduceLE, Int.reduceGT, Int.reduceGE], by simp -implicitDefEqProofs (maxSteps := 1000000) (disch := omega) only [↓xsP, ↓vc_seq, xsQ, xsT, xsR, xsD, ↓reduceIte, reduceCtorEq, eq_self, ne_eq, imp_self, forall_const, Nat.reduceEqDiff, Nat.reduceAdd, Nat.reduceSub, Nat.reduceMul, Nat.reduceLT, Nat.reduceLeDiff, Nat.reduceBEq, Nat.reduceDiv, Nat.reduceMod, Int.reduceToNat, Int.reduceNeg, Int.reduceAdd, Int.reduceSub, Int.reduceMul, Int.reduceEq, Int.reduceNe, Int.reduceLT, Int.reduceLE, Int.reduceGT, Int.reduceGE], by simp -implicitDefEqProofs (maxSteps := 1000000) (disch := omega) only [↓xsP, ↓vc_seq, xsQ, xsT, xsR, xsD, ↓reduceIte, reduceCtorEq, eq_self, ne_eq, imp_self, forall_const, Nat.reduceEqDiff, Nat.reduceAdd, Nat.reduceSub, Nat.reduceMul, Nat.reduceLT, Nat.reduceLeDiff, Nat.reduceBEq, Nat.reduceDiv, Nat.reduceMod, Int.reduceToNat, Int.reduceNeg, Int.reduceAdd, Int.reduceSub, Int.reduceMul, Int.reduceEq, Int.reduceNe, Int.reduceLT, Int.reduceLE, Int.reduceGT, Int.reduceGE], by simp -implicitDefEqProofs (maxSteps := 1000000) (disch := omega) only [↓xsP, ↓vc_seq, xsQ, xsT, xsR, xsD, ↓reduceIte, reduceCtorEq, eq_self, ne_eq, imp_self, forall_const, Nat.reduceEqDiff, Nat.reduceAdd, Nat.reduceSub, Nat.reduceMul, Nat.reduceLT, Nat.reduceLeDiff, Nat.reduceBEq, Nat.reduceDiv, Nat.reduceMod, Int.reduceToNat, Int.reduceNeg, Int.reduceAdd, Int.reduceSub, Int.reduceMul, Int.reduceEq, Int.reduceNe, Int.reduceLT, Int.reduceLE, Int.reduceGT, Int.reduceGE, Int.cast_ofNat_Int], hIs, ⟨Mem.le_refl _, .inl ⟨rfl, rfl⟩⟩⟩
  rintro k fr M2 ⟨i, xm, xh, hi, rfl, f0, f1, f8, f9, f56, f57, hK, I⟩
  simp -implicitDefEqProofs (maxSteps := 1000000) (disch := omega) only [↓xsP, ↓vc_seq, xsQ, xsT, xsR, xsD, ↓reduceIte, reduceCtorEq, eq_self, ne_eq, imp_self, forall_const, Nat.reduceEqDiff, Nat.reduceAdd, Nat.reduceSub, Nat.reduceMul, Nat.reduceLT, Nat.reduceLeDiff, Nat.reduceBEq, Nat.reduceDiv, Nat.reduceMod, Int.reduceToNat, Int.reduceNeg, Int.reduceAdd, Int.reduceSub, Int.reduceMul, Int.reduceEq, Int.reduceNe, Int.reduceLT, Int.reduceLE, Int.reduceGT, Int.reduceGE, f0, f1, f8, f9, f56, f57]
  refine condI_prop (fun hlt => ?_) (fun hlt => ?_)
  · have hin : i < n := by omega
    have r8 : arithA .rem .i64 (i : Int) 8 = some (.int .i64 ((i % 8 : Nat) : Int)) := by
      simp only [arithA]
      rw [if_neg (by decide)]
      simp [Int.tmod]
    have r3 : arithA .rem .i64 (i : Int) 3 = some (.int .i64 ((i % 3 : Nat) : Int)) := by
      simp only [arithA]
      rw [if_neg (by decide)]
      simp [Int.tmod]
    have wadd : IntKind.i64.wrap (1 + ((i % 8 : Nat) : Int)) = ((1 + i % 8 : Nat) : Int) := by rw [wrap_in (by omega) (by omega)]; omega
    simp -implicitDefEqProofs (maxSteps := 1000000) (disch := omega) only [↓xsP, ↓vc_seq, xsQ, xsT, xsR, xsD, ↓reduceIte, reduceCtorEq, eq_self, ne_eq, imp_self, forall_const, Nat.reduceEqDiff, Nat.reduceAdd, Nat.reduceSub, Nat.reduceMul, Nat.reduceLT, Nat.reduceLeDiff, Nat.reduceBEq, Nat.reduceDiv, Nat.reduceMod, Int.reduceToNat, Int.reduceNeg, Int.reduceAdd, Int.reduceSub, Int.reduceMul, Int.reduceEq, Int.reduceNe, Int.reduceLT, Int.reduceLE, Int.reduceGT, Int.reduceGE, f0, f1, f8, f9, f56, f57, r8, r3, wadd]
    refine newI_intro fun id11 hid11 => ?_
    simp -implicitDefEqProofs (maxSteps := 1000000) (disch := omega) only [↓xsP, ↓vc_seq, xsQ, xsT, xsR, xsD, ↓reduceIte, reduceCtorEq, eq_self, ne_eq, imp_self, forall_const, Nat.reduceEqDiff, Nat.reduceAdd, Nat.reduceSub, Nat.reduceMul, Nat.reduceLT, Nat.reduceLeDiff, Nat.reduceBEq, Nat.reduceDiv, Nat.reduceMod, Int.reduceToNat, Int.reduceNeg, Int.reduceAdd, Int.reduceSub, Int.reduceMul, Int.reduceEq, Int.reduceNe, Int.reduceLT, Int.reduceLE, Int.reduceGT, Int.reduceGE, f0, f1, f8, f9, f56, f57, r8, r3, wadd]
    have hsl := runL_len b (manyOps i)
    rw [manyOps_len] at hsl
    obtain ⟨s, hs⟩ : ∃ s, runL b (manyOps i) = s := ⟨_, rfl⟩
    rw [hs] at hK hsl
    obtain ⟨N1, eN1, h11, hMN1⟩ : ∃ N1, N1 = M2.set id11 (.cells 25 [[.int .i64 ((1 + i % 8 : Nat) : Int), .int .i64 ((i % 3 : Nat) : Int), .int .i64 2, .int .i64 (i : Int)]] 0) ∧ N1 id11 = some (.cells 25 [[.int .i64 ((1 + i % 8 : Nat) : Int), .int .i64 ((i % 3 : Nat) : Int), .int .i64 2, .int .i64 (i : Int)]] 0) ∧ M2.le N1 := ⟨_, rfl, Mem.set_eq _ _ _, le_new (Mem.le_refl _) hid11⟩
    rw [← eN1]
    have I1 := I.grow hMN1
    refine callI_of ((doR_isK (hK.le I1.le) (by omega) (mkOp i)).mono ?_)
    rintro _ N1 ⟨rfl, rfl⟩
    have hdl := doA_lenO s (mkOp i)
    obtain ⟨a, ha⟩ : ∃ a, doA s (mkOp i) = a := ⟨_, rfl⟩
    rw [ha] at hdl
    simp -implicitDefEqProofs (maxSteps := 1000000) (disch := omega) only [↓xsP, ↓vc_seq, xsQ, xsT, xsR, xsD, ↓reduceIte, reduceCtorEq, eq_self, ne_eq, imp_self, forall_const, Nat.reduceEqDiff, Nat.reduceAdd, Nat.reduceSub, Nat.reduceMul, Nat.reduceLT, Nat.reduceLeDiff, Nat.reduceBEq, Nat.reduceDiv, Nat.reduceMod, Int.reduceToNat, Int.reduceNeg, Int.reduceAdd, Int.reduceSub, Int.reduceMul, Int.reduceEq, Int.reduceNe, Int.reduceLT, Int.reduceLE, Int.reduceGT, Int.reduceGE, f0, f1, f8, f9, f56, f57, r8, r3, wadd, h11, ha]
    refine newI_intro fun id13 hid13 => ?_
    have k13 := lt_of_bnd hid13 h11
    simp -implicitDefEqProofs (maxSteps := 1000000) (disch := omega) only [↓xsP, ↓vc_seq, xsQ, xsT, xsR, xsD, ↓reduceIte, reduceCtorEq, eq_self, ne_eq, imp_self, forall_const, Nat.reduceEqDiff, Nat.reduceAdd, Nat.reduceSub, Nat.reduceMul, Nat.reduceLT, Nat.reduceLeDiff, Nat.reduceBEq, Nat.reduceDiv, Nat.reduceMod, Int.reduceToNat, Int.reduceNeg, Int.reduceAdd, Int.reduceSub, Int.reduceMul, Int.reduceEq, Int.reduceNe, Int.reduceLT, Int.reduceLE, Int.reduceGT, Int.reduceGE, f0, f1, f8, f9, f56, f57, r8, r3, wadd, h11, ha]
    refine newI_intro fun ids hids => ?_
    simp -implicitDefEqProofs (maxSteps := 1000000) (disch := omega) only [↓xsP, ↓vc_seq, xsQ, xsT, xsR, xsD, ↓reduceIte, reduceCtorEq, eq_self, ne_eq, imp_self, forall_const, Nat.reduceEqDiff, Nat.reduceAdd, Nat.reduceSub, Nat.reduceMul, Nat.reduceLT, Nat.reduceLeDiff, Nat.reduceBEq, Nat.reduceDiv, Nat.reduceMod, Int.reduceToNat, Int.reduceNeg, Int.reduceAdd, Int.reduceSub, Int.reduceMul, Int.reduceEq, Int.reduceNe, Int.reduceLT, Int.reduceLE, Int.reduceGT, Int.reduceGE, f0, f1, f8, f9, f56, f57, r8, r3, wadd, h11, ha]
    have I2 : EvB B (N1.set id13 (.cells 34 [[.int .i64 a.err, .bool a.ok, .int .i64 a.pair.key, .int .i64 a.pair.val, .int .i64 a.n, .sl (a.pairs.map Pr.row)]] 0)) xh (seqE 0 (toldL b (manyOps i))) := I1.grow (le_new (Mem.le_refl _) hid13)
    refine app_evs I2 hids _ [⟨((i % 3 : Nat) : Int), false, mkOp i, ans0⟩, ⟨((i % 3 : Nat) : Int), true, mkOp i, a⟩] (by simp [wkL, Evt.row, ans0, mkOp]) (by simp) (by rw [seqE_len, toldL_len, manyOps_len]; simp; omega) rfl fun x' N' I' => ?_
    simp -implicitDefEqProofs (maxSteps := 1000000) (disch := omega) only [↓xsP, ↓vc_seq, xsQ, xsT, xsR, xsD, ↓reduceIte, reduceCtorEq, eq_self, ne_eq, imp_self, forall_const, Nat.reduceEqDiff, Nat.reduceAdd, Nat.reduceSub, Nat.reduceMul, Nat.reduceLT, Nat.reduceLeDiff, Nat.reduceBEq, Nat.reduceDiv, Nat.reduceMod, Int.reduceToNat, Int.reduceNeg, Int.reduceAdd, Int.reduceSub, Int.reduceMul, Int.reduceEq, Int.reduceNe, Int.reduceLT, Int.reduceLE, Int.reduceGT, Int.reduceGE, f0, f1, f8, f9, f56, f57, r8, r3, wadd, h11, ha]
    refine ⟨n - (i + 1), N', by omega, Mem.le_refl _, i + 1, _, x', by omega, rfl, rfl, rfl, by simp, ?_, ?_⟩
    · rw [manyOps_succ, runL_snoc, hs]
      exact IsK.sl _ _
    · rw [manyOps_succ, toldL_snoc, seqE_snoc, toldL_len, manyOps_len, hs, ha, Nat.zero_add]
      exact I'
  · have hin : i = n := by omega
    subst hin
    simp -implicitDefEqProofs (maxSteps := 1000000) (disch := omega) only [↓xsP, ↓vc_seq, xsQ, xsT, xsR, xsD, ↓reduceIte, reduceCtorEq, eq_self, ne_eq, imp_self, forall_const, Nat.reduceEqDiff, Nat.reduceAdd, Nat.reduceSub, Nat.reduceMul, Nat.reduceLT, Nat.reduceLeDiff, Nat.reduceBEq, Nat.reduceDiv, Nat.reduceMod, Int.reduceToNat, Int.reduceNeg, Int.reduceAdd, Int.reduceSub, Int.reduceMul, Int.reduceEq, Int.reduceNe, Int.reduceLT, Int.reduceLE, Int.reduceGT, Int.reduceGE, f0, f1, f8, f9, f56, f57]
    obtain ⟨h1', h2', h3'⟩ := told_ok (b := b) (ops := manyOps i) hasc h1 (by rw [manyOps_len]; omega) (fun o ho => by
      obtain ⟨j, hj, rfl⟩ := List.mem_map.1 ho
      exact mkOp_may j (by have := List.mem_range.1 hj; omega))
    have hLl : (toldL b (manyOps i)).length = i := by rw [toldL_len, manyOps_len]
    have htold := toldL_told b (manyOps i)
    have hints : ∀ x ∈ toldL b (manyOps i), IntOk' x.1.key ∧ IntOk' x.1.val := fun x hx => by
      obtain ⟨j, hj, rfl⟩ := toldL_mem hx
      have hm := getD_mem' (manyOps i) default hj
      generalize (manyOps i).getD j default = o at hm
      obtain ⟨q, hq, rfl⟩ := List.mem_map.1 hm
      have := List.mem_range.1 hq
      refine ⟨⟨?_, ?_⟩, ?_, ?_⟩ <;> simp only [mkOp] <;> omega
    generalize toldL b (manyOps i) = L at I h1' h2' h3' hLl htold hints
    have hsm : Small (seqE 0 L) := seq_small (b := b) (by omega) (fun x hx => by have := h3' x hx; omega) 0
    have hoo : OpsOk (callsP (seqE 0 L)) := ops_ok (seqE_mem (P := fun e => IntOk' e.op.key ∧ IntOk' e.op.val) fun x hx t => ⟨hints x hx, hints x hx⟩)
    have hcl : (callsP (seqE 0 L)).length = i := by rw [callsP_seq h1', seqC_len, hLl]
    obtain ⟨M3, hG, I3, hRd, -⟩ := I.rd
    refine callI_gs hG (callI_of (XCalls.mono (XCalls.rd (.cons (.inl ⟨rfl, Fast.sl _⟩) (.cons (.inr ⟨_, _, rfl, rfl, hRd⟩) .nil)) (lfind_spec b (seqE 0 L) (by omega) hbi hsm hoo M3)) ?_))
    rintro _ M3 ⟨rfl, l, ok, e, hF, rfl⟩
    simp -implicitDefEqProofs (maxSteps := 1000000) (disch := omega) only [↓xsP, ↓vc_seq, xsQ, xsT, xsR, xsD, ↓reduceIte, reduceCtorEq, eq_self, ne_eq, imp_self, forall_const, Nat.reduceEqDiff, Nat.reduceAdd, Nat.reduceSub, Nat.reduceMul, Nat.reduceLT, Nat.reduceLeDiff, Nat.reduceBEq, Nat.reduceDiv, Nat.reduceMod, Int.reduceToNat, Int.reduceNeg, Int.reduceAdd, Int.reduceSub, Int.reduceMul, Int.reduceEq, Int.reduceNe, Int.reduceLT, Int.reduceLE, Int.reduceGT, Int.reduceGE, f0, f1, f8, f9, f56, f57]
    refine condI_prop (fun hgt => ?_) (fun hgt => ?_)
    · have hbad : ok = false ∧ e = 1 ∧ l = [] := by
        cases hF with
        | bad _ => exact ⟨rfl, rfl, rfl⟩
        | none ha _ => have := ha.2.2; omega
        | some ha _ => have := ha.2.2; omega
      obtain ⟨rfl, rfl, rfl⟩ := hbad
      simp -implicitDefEqProofs (maxSteps := 1000000) (disch := omega) only [↓xsP, ↓vc_seq, xsQ, xsT, xsR, xsD, ↓reduceIte, reduceCtorEq, eq_self, ne_eq, imp_self, forall_const, Nat.reduceEqDiff, Nat.reduceAdd, Nat.reduceSub, Nat.reduceMul, Nat.reduceLT, Nat.reduceLeDiff, Nat.reduceBEq, Nat.reduceDiv, Nat.reduceMod, Int.reduceToNat, Int.reduceNeg, Int.reduceAdd, Int.reduceSub, Int.reduceMul, Int.reduceEq, Int.reduceNe, Int.reduceLT, Int.reduceLE, Int.reduceGT, Int.reduceGE, Int.cast_ofNat_Int]
      refine call_of (awake20_spec _) ?_
      simp -implicitDefEqProofs (maxSteps := 1000000) (disch := omega) only [↓xsP, ↓vc_seq, xsQ, xsT, xsR, xsD, ↓reduceIte, reduceCtorEq, eq_self, ne_eq, imp_self, forall_const, Nat.reduceEqDiff, Nat.reduceAdd, Nat.reduceSub, Nat.reduceMul, Nat.reduceLT, Nat.reduceLeDiff, Nat.reduceBEq, Nat.reduceDiv, Nat.reduceMod, Int.reduceToNat, Int.reduceNeg, Int.reduceAdd, Int.reduceSub, Int.reduceMul, Int.reduceEq, Int.reduceNe, Int.reduceLT, Int.reduceLE, Int.reduceGT, Int.reduceGE]
      exact fin_ok (fun k bk hk => I3.le _ _ (hMB _ _ hk)) ⟨rfl, rfl⟩
    · have hright := (right_seq hR h1' h2' (allI L.length)).2 ⟨rfl, htold⟩
      obtain rfl := found_of hF (by omega) hright
      obtain ⟨hr2, rfl, hask⟩ := found_right hF
      obtain ⟨rfl, -⟩ := (right_seq hR h1' h2' l).1 hr2
      rw [hLl] at hF hr2 ⊢
      have hal := allI_len i
      simp -implicitDefEqProofs (maxSteps := 1000000) (disch := omega) only [↓xsP, ↓vc_seq, xsQ, xsT, xsR, xsD, ↓reduceIte, reduceCtorEq, eq_self, ne_eq, imp_self, forall_const, Nat.reduceEqDiff, Nat.reduceAdd, Nat.reduceSub, Nat.reduceMul, Nat.reduceLT, Nat.reduceLeDiff, Nat.reduceBEq, Nat.reduceDiv, Nat.reduceMod, Int.reduceToNat, Int.reduceNeg, Int.reduceAdd, Int.reduceSub, Int.reduceMul, Int.reduceEq, Int.reduceNe, Int.reduceLT, Int.reduceLE, Int.reduceGT, Int.reduceGE, f0, f1, f8, f9, f56, f57, hal]
      refine loopI_of (xloop (by kernel_rfl) (fun k fr M4 => ∃ j : Nat, j ≤ i ∧ k = i - j ∧ fr 0 = .l (.sl (b.map Pr.row)) ∧ fr 8 = .l xh ∧ fr 14 = .l (.sl ((allI i).map irow)) ∧ fr 122 = .l (.sl ((allI i).map irow)) ∧ fr 123 = .l (.int .i64 i) ∧ fr 124 = .l (.int .i64 j) ∧ M4 = M3) i ?_ ?_)
      · exact ⟨0, Nat.zero_le _, rfl, by simp -implicitDefEqProofs (maxSteps := 1000000) (disch := omega) only [↓xsP, ↓vc_seq, xsQ, xsT, xsR, xsD, ↓reduceIte, reduceCtorEq, eq_self, ne_eq, imp_self, forall_const, Nat.reduceEqDiff, Nat.reduceAdd, Nat.reduceSub, Nat.reduceMul, Nat.reduceLT, Nat.reduceLeDiff, Nat.reduceBEq, Nat.reduceDiv, Nat.reduceMod, Int.reduceToNat, Int.reduceNeg, Int.reduceAdd, Int.reduceSub, Int.reduceMul, Int.reduceEq, Int.reduceNe, Int.reduceLT, Int.reduceLE, Int.reduceGT, Int.reduceGE, f0], by simp -implicitDefEqProofs (maxSteps := 1000000) (disch := omega) only [↓xsP, ↓vc_seq, xsQ, xsT, xsR, xsD, ↓reduceIte, reduceCtorEq, eq_self, ne_eq, imp_self, forall_const, Nat.reduceEqDiff, Nat.reduceAdd, Nat.reduceSub, Nat.reduceMul, Nat.reduceLT, Nat.reduceLeDiff, Nat.reduceBEq, Nat.reduceDiv, Nat.reduceMod, Int.reduceToNat, Int.reduceNeg, Int.reduceAdd, Int.reduceSub, Int.reduceMul, Int.reduceEq, Int.reduceNe, Int.reduceLT, Int.reduceLE, Int.reduceGT, Int.reduceGE, f8], by simp -implicitDefEqProofs (maxSteps := 1000000) (disch := omega) only [↓xsP, ↓vc_seq, xsQ, xsT, xsR, xsD, ↓reduceIte, reduceCtorEq, eq_self, ne_eq, imp_self, forall_const, Nat.reduceEqDiff, Nat.reduceAdd, Nat.reduceSub, Nat.reduceMul, Nat.reduceLT, Nat.reduceLeDiff, Nat.reduceBEq, Nat.reduceDiv, Nat.reduceMod, Int.reduceToNat, Int.reduceNeg, Int.reduceAdd, Int.reduceSub, Int.reduceMul, Int.reduceEq, Int.reduceNe, Int.reduceLT, Int.reduceLE, Int.reduceGT, Int.reduceGE], by simp -implicitDefEqProofs (maxSteps := 1000000) (disch := omega) only [↓xsP, ↓vc_seq, xsQ, xsT, xsR, xsD, ↓reduceIte, reduceCtorEq, eq_self, ne_eq, imp_self, forall_const, Nat.reduceEqDiff, Nat.reduceAdd, Nat.reduceSub, Nat.reduceMul, Nat.reduceLT, Nat.reduceLeDiff, Nat.reduceBEq, Nat.reduceDiv, Nat.reduceMod, Int.reduceToNat, Int.reduceNeg, Int.reduceAdd, Int.reduceSub, Int.reduceMul, Int.reduceEq, Int.reduceNe, Int.reduceLT, Int.reduceLE, Int.reduceGT, Int.reduceGE], by simp -implicitDefEqProofs (maxSteps := 1000000) (disch := omega) only [↓xsP, ↓vc_seq, xsQ, xsT, xsR, xsD, ↓reduceIte, reduceCtorEq, eq_self, ne_eq, imp_self, forall_const, Nat.reduceEqDiff, Nat.reduceAdd, Nat.reduceSub, Nat.reduceMul, Nat.reduceLT, Nat.reduceLeDiff, Nat.reduceBEq, Nat.reduceDiv, Nat.reduceMod, Int.reduceToNat, Int.reduceNeg, Int.reduceAdd, Int.reduceSub, Int.reduceMul, Int.reduceEq, Int.reduceNe, Int.reduceLT, Int.reduceLE, Int.reduceGT, Int.reduceGE, hal], by simp -implicitDefEqProofs (maxSteps := 1000000) (disch := omega) only [↓xsP, ↓vc_seq, xsQ, xsT, xsR, xsD, ↓reduceIte, reduceCtorEq, eq_self, ne_eq, imp_self, forall_const, Nat.reduceEqDiff, Nat.reduceAdd, Nat.reduceSub, Nat.reduceMul, Nat.reduceLT, Nat.reduceLeDiff, Nat.reduceBEq, Nat.reduceDiv, Nat.reduceMod, Int.reduceToNat, Int.reduceNeg, Int.reduceAdd, Int.reduceSub, Int.reduceMul, Int.reduceEq, Int.reduceNe, Int.reduceLT, Int.reduceLE, Int.reduceGT, Int.reduceGE, Int.cast_ofNat_Int], rfl⟩
      clear f0 f1 f8 f9 f56 f57
      rintro k fr M3 ⟨j, hj, rfl, f0, f8, f14, f122, f123, f124, rfl⟩
      simp -implicitDefEqProofs (maxSteps := 1000000) (disch := omega) only [↓xsP, ↓vc_seq, xsQ, xsT, xsR, xsD, ↓reduceIte, reduceCtorEq, eq_self, ne_eq, imp_self, forall_const, Nat.reduceEqDiff, Nat.reduceAdd, Nat.reduceSub, Nat.reduceMul, Nat.reduceLT, Nat.reduceLeDiff, Nat.reduceBEq, Nat.reduceDiv, Nat.reduceMod, Int.reduceToNat, Int.reduceNeg, Int.reduceAdd, Int.reduceSub, Int.reduceMul, Int.reduceEq, Int.reduceNe, Int.reduceLT, Int.reduceLE, Int.reduceGT, Int.reduceGE, f0, f8, f14, f122, f123, f124]
      refine condI_prop (fun hlt2 => ?_) (fun hlt2 => ?_)
      · have hji : j < i := by omega
        have hget := allI_get hji
        have hq : (0 ≤ (j : Int) ∧ (j : Int) < ((allI i).length : Int)) = True := eq_true ⟨by omega, by rw [hal]; omega⟩
        simp -implicitDefEqProofs (maxSteps := 1000000) (disch := omega) only [↓xsP, ↓vc_seq, xsQ, xsT, xsR, xsD, ↓reduceIte, reduceCtorEq, eq_self, ne_eq, imp_self, forall_const, Nat.reduceEqDiff, Nat.reduceAdd, Nat.reduceSub, Nat.reduceMul, Nat.reduceLT, Nat.reduceLeDiff, Nat.reduceBEq, Nat.reduceDiv, Nat.reduceMod, Int.reduceToNat, Int.reduceNeg, Int.reduceAdd, Int.reduceSub, Int.reduceMul, Int.reduceEq, Int.reduceNe, Int.reduceLT, Int.reduceLE, Int.reduceGT, Int.reduceGE, f0, f8, f14, f122, f123, f124, hget, hal]
        exact ⟨i - (j + 1), M3, by omega, Mem.le_refl _, j + 1, by omega, rfl, by simp, rfl⟩
      · simp -implicitDefEqProofs (maxSteps := 1000000) (disch := omega) only [↓xsP, ↓vc_seq, xsQ, xsT, xsR, xsD, ↓reduceIte, reduceCtorEq, eq_self, ne_eq, imp_self, forall_const, Nat.reduceEqDiff, Nat.reduceAdd, Nat.reduceSub, Nat.reduceMul, Nat.reduceLT, Nat.reduceLeDiff, Nat.reduceBEq, Nat.reduceDiv, Nat.reduceMod, Int.reduceToNat, Int.reduceNeg, Int.reduceAdd, Int.reduceSub, Int.reduceMul, Int.reduceEq, Int.reduceNe, Int.reduceLT, Int.reduceLE, Int.reduceGT, Int.reduceGE, f0, f8, f14, f122, f123, f124]
        refine newI_intro fun ids hids => ?_
        simp -implicitDefEqProofs (maxSteps := 1000000) (disch := omega) only [↓xsP, ↓vc_seq, xsQ, xsT, xsR, xsD, ↓reduceIte, reduceCtorEq, eq_self, ne_eq, imp_self, forall_const, Nat.reduceEqDiff, Nat.reduceAdd, Nat.reduceSub, Nat.reduceMul, Nat.reduceLT, Nat.reduceLeDiff, Nat.reduceBEq, Nat.reduceDiv, Nat.reduceMod, Int.reduceToNat, Int.reduceNeg, Int.reduceAdd, Int.reduceSub, Int.reduceMul, Int.reduceEq, Int.reduceNe, Int.reduceLT, Int.reduceLE, Int.reduceGT, Int.reduceGE, f0, f8, f14, f122, f123, f124]
        refine app_evs I3 hids _ [⟨0, true, ⟨0, 0, 0, 0⟩, ans0⟩] (by simp [wkL, Evt.row, ans0]) (by simp) (by rw [seqE_len]; simp; omega) rfl fun x' N' I' => ?_
        simp -implicitDefEqProofs (maxSteps := 1000000) (disch := omega) only [↓xsP, ↓vc_seq, xsQ, xsT, xsR, xsD, ↓reduceIte, reduceCtorEq, eq_self, ne_eq, imp_self, forall_const, Nat.reduceEqDiff, Nat.reduceAdd, Nat.reduceSub, Nat.reduceMul, Nat.reduceLT, Nat.reduceLeDiff, Nat.reduceBEq, Nat.reduceDiv, Nat.reduceMod, Int.reduceToNat, Int.reduceNeg, Int.reduceAdd, Int.reduceSub, Int.reduceMul, Int.reduceEq, Int.reduceNe, Int.reduceLT, Int.reduceLE, Int.reduceGT, Int.reduceGE, f0, f8, f14, f122, f123, f124]
        have hokf : okP (seqE 0 L ++ [⟨0, true, ⟨0, 0, 0, 0⟩, ans0⟩]) = false := by
          have hr := rrun_seq 0 0 [] L rfl h1'
          rw [List.nil_append] at hr
          rw [okP, readP_snoc _ hr]
          have : rstep (seqE 0 L).length ⟨0, true, ⟨0, 0, 0, 0⟩, ans0⟩ (seqC 0 L, []) = none := by
            rw [rstep, if_neg (by simp), if_neg (by simp), if_pos (.inl (by simp [iget]))]
          rw [this]
          rfl
        have hcn := (not_ok hokf).1
        have hsm2 : Small (seqE 0 L ++ [⟨0, true, ⟨0, 0, 0, 0⟩, ans0⟩]) := by
          refine ⟨by rw [List.length_append, seqE_len]; simp; omega, fun x hx => ?_⟩
          rcases List.mem_append.1 hx with hx | hx
          · exact hsm.2 _ hx
          · rw [List.mem_singleton.1 hx]
            exact Nat.zero_le _
        obtain ⟨M5, hG5, I5, hRd5, -⟩ := I'.rd
        refine callI_gs hG5 (callI_of (XCalls.mono (XCalls.rd (.cons (.inl ⟨rfl, Fast.sl _⟩) (.cons (.inr ⟨_, _, rfl, rfl, hRd5⟩) .nil)) (lfind_spec b _ (by omega) hbi hsm2 (by rw [hcn]; exact fun c hc => by cases hc) M5)) ?_))
        rintro _ M5 ⟨rfl, l2, ok2, e2, hF2, rfl⟩
        have hbad : ok2 = false ∧ e2 = 1 := by
          cases hF2 with
          | bad _ => exact ⟨rfl, rfl⟩
          | none ha _ => have := ha.2.1; rw [hokf] at this; cases this
          | some ha _ => have := ha.2.1; rw [hokf] at this; cases this
        obtain ⟨rfl, rfl⟩ := hbad
        simp -implicitDefEqProofs (maxSteps := 1000000) (disch := omega) only [↓xsP, ↓vc_seq, xsQ, xsT, xsR, xsD, ↓reduceIte, reduceCtorEq, eq_self, ne_eq, imp_self, forall_const, Nat.reduceEqDiff, Nat.reduceAdd, Nat.reduceSub, Nat.reduceMul, Nat.reduceLT, Nat.reduceLeDiff, Nat.reduceBEq, Nat.reduceDiv, Nat.reduceMod, Int.reduceToNat, Int.reduceNeg, Int.reduceAdd, Int.reduceSub, Int.reduceMul, Int.reduceEq, Int.reduceNe, Int.reduceLT, Int.reduceLE, Int.reduceGT, Int.reduceGE]
        refine call_of (awake20_spec _) ?_
        simp -implicitDefEqProofs (maxSteps := 1000000) (disch := omega) only [↓xsP, ↓vc_seq, xsQ, xsT, xsR, xsD, ↓reduceIte, reduceCtorEq, eq_self, ne_eq, imp_self, forall_const, Nat.reduceEqDiff, Nat.reduceAdd, Nat.reduceSub, Nat.reduceMul, Nat.reduceLT, Nat.reduceLeDiff, Nat.reduceBEq, Nat.reduceDiv, Nat.reduceMod, Int.reduceToNat, Int.reduceNeg, Int.reduceAdd, Int.reduceSub, Int.reduceMul, Int.reduceEq, Int.reduceNe, Int.reduceLT, Int.reduceLE, Int.reduceGT, Int.reduceGE]
        exact fin_ok (fun k bk hk => I5.le _ _ (hMB _ _ hk)) ⟨rfl, rfl⟩
end Go.X
