/- The walk of BoundMore. -/
import Derived.Test.YtddmalpfmcggjaaBem
import Derived.Test.YtddmalpfmcggjaaZ5
set_option linter.unusedVariables false
set_option linter.unusedSimpArgs false
set_option maxHeartbeats 20000000
set_option maxRecDepth 100000
namespace Go.X
open Go.Proofs.Try (prog)

theorem needN_mono {c c' t t' b b' : Nat} (hc : c ≤ c') (ht : t ≤ t') (hb : b ≤ b') : needN c t b ≤ needN c' t' b' := by
  have h1 : 8 * c * (t + 1) ≤ 8 * c' * (t' + 1) := Nat.mul_le_mul (by omega) (by omega)
  have h2 : 8 * c * (t + 1) * (4 * (b + c) + 40) ≤ 8 * c' * (t' + 1) * (4 * (b' + c') + 40) := Nat.mul_le_mul h1 (by omega)
  unfold needN
  omega
theorem callsN_app (L L' : List (List Opn)) : callsN (L ++ L') = callsN L + callsN L' := by simp [callsN]
theorem rowsN_mono (s : Scr) {n m : Nat} (h : n ≤ m) : callsN (rowsN s n) ≤ callsN (rowsN s m) := by
  induction m with
  | zero => have : n = 0 := by omega
            subst this; exact Nat.le_refl _
  | succ m ih =>
    by_cases e : n = m + 1
    · subst e; exact Nat.le_refl _
    · have := ih (by omega)
      rw [rowsN_succ, callsN_app]
      omega
theorem rowsN_row {s u : Scr} (h : ∀ t, (cleanRow (s.ops.getD t [])).length ≤ (cleanRow (u.ops.getD t [])).length) (n : Nat) : callsN (rowsN s n) ≤ callsN (rowsN u n) := by
  induction n with
  | zero => exact Nat.le_refl _
  | succ n ih =>
    rw [rowsN_succ, rowsN_succ, callsN_app, callsN_app]
    have := h n
    simp only [callsN, List.map_cons, List.map_nil, List.sum_cons, List.sum_nil] at ih ⊢
    omega
theorem put_len {P : List Pr} (h : Asc P) (p : Pr) : P.length ≤ (doL P (putOp p)).length := by
  rw [doL_upd h (by simp [mayOpB, putOp]) (by simp [putOp]), oneL, if_pos (.inl rfl)]
  show P.length ≤ (withL P p).length
  rcases forms p.key P h with ⟨A, C, hO⟩ | ⟨A, x, C, hI⟩
  · have : withL P p = A ++ p :: C := hO.with p.val
    rw [this, hO.1]
    simp
  · have : withL P p = A ++ p :: C := hI.with p.val
    rw [this, hI.1]
    simp
theorem cells_thr {s : Scr} {t : Int} (h : s.threads ≤ t) : cellsS { s with threads := t } ≥ cellsS s := by
  have h1 : thrN s ≤ thrN { s with threads := t } := by unfold thrN; simp only; omega
  have h2 : callsN (rowsN s (thrN s)) ≤ callsN (rowsN s (thrN { s with threads := t })) := rowsN_mono s h1
  have h3 : needS s ≤ needS { s with threads := t } := needN_mono h2 h1 (Nat.le_refl _)
  rw [cellsS, cellsS]
  omega
theorem cells_ops {s : Scr} {L : List (List Opn)} (h : ∀ t, (cleanRow (s.ops.getD t [])).length ≤ (cleanRow (L.getD t [])).length) : cellsS { s with ops := L } ≥ cellsS s := by
  have h2 : callsN (rowsN s (thrN s)) ≤ callsN (rowsN { s with ops := L } (thrN s)) := rowsN_row (u := { s with ops := L }) h _
  have h3 : needS s ≤ needS { s with ops := L } := needN_mono h2 (Nat.le_refl _) (Nat.le_refl _)
  rw [cellsS, cellsS]
  omega
theorem cells_beg (s : Scr) (p : Pr) : cellsS { s with beg := s.beg ++ [p] } ≥ cellsS s := by
  have h1 : (putL s.beg).length ≤ (putL (s.beg ++ [p])).length := by rw [putL_snoc]; exact put_len (putL_asc _) p
  have h2 : ((putL s.beg).take 200).length ≤ ((putL (s.beg ++ [p])).take 200).length := by rw [List.length_take, List.length_take]; omega
  have h3 : needS s ≤ needS { s with beg := s.beg ++ [p] } := needN_mono (Nat.le_refl _) (Nat.le_refl _) h2
  rw [cellsS, cellsS]
  omega
theorem cleanRow_snoc (l : List Opn) (op : Opn) : (cleanRow l).length ≤ (cleanRow (l ++ [op])).length := by
  unfold cleanRow
  rw [List.filter_append, List.length_take, List.length_take, List.length_append]
  omega
theorem steps_u {u b : Nat} (hu : u < 60000) (hb : b < 6) : stepsI ((u : Int) + 1) b > stepsI u b := by
  rw [stepsI, if_pos (by omega), stepsI, if_pos (by omega)]
  have h : b = 0 ∨ b = 1 ∨ b = 2 ∨ b = 3 ∨ b = 4 ∨ b = 5 := by omega
  rcases h with rfl | rfl | rfl | rfl | rfl | rfl <;> simp <;> omega
theorem steps_b {u b : Nat} (hu : u < 60000) (hb : b < 6) : stepsI u ((b : Int) + 1) > stepsI u b := by
  rw [stepsI, if_pos (by omega), stepsI, if_pos (by omega)]
  have h : b = 0 ∨ b = 1 ∨ b = 2 ∨ b = 3 ∨ b = 4 ∨ b = 5 := by omega
  rcases h with rfl | rfl | rfl | rfl | rfl | rfl <;> simp <;> omega
/-- The operations with one more for the first thread. -/
def opsU (L : List (List Opn)) (op : Opn) : List (List Opn) := if 0 < L.length ∧ (L.getD 0 default).length < 50 then L.set 0 (L.getD 0 default ++ [op]) else L
theorem opsU_row (L : List (List Opn)) (op : Opn) (t : Nat) : (cleanRow (L.getD t [])).length ≤ (cleanRow ((opsU L op).getD t [])).length := by
  unfold opsU
  split
  · rename_i h
    cases L with
    | nil => simp at h
    | cons l r =>
      cases t with
      | zero => simpa using cleanRow_snoc l op
      | succ t => simp
  · exact Nat.le_refl _
theorem callsN_set (L : List (List Opn)) (l : List Opn) : callsN (L.set 0 l) ≤ callsN L + l.length := by
  cases L with
  | nil => simp [callsN]
  | cons x r => simp [callsN]; omega
theorem opsU_calls (L : List (List Opn)) (op : Opn) : callsN (opsU L op) ≤ callsN L + 50 := by
  unfold opsU
  split
  · have := callsN_set L (L.getD 0 default ++ [op])
    rw [List.length_append] at this
    simp only [List.length_cons, List.length_nil] at this
    omega
  · omega
theorem opsU_len (L : List (List Opn)) (op : Opn) : (opsU L op).length = L.length := by unfold opsU; split <;> simp
theorem len_callsN' {L : List (List Opn)} {l : List Opn} (h : l ∈ L) : l.length ≤ callsN L := by
  induction L with
  | nil => cases h
  | cons x r ih =>
    simp only [callsN, List.map_cons, List.sum_cons] at ih ⊢
    rcases List.mem_cons.1 h with rfl | h
    · omega
    · have := ih h
      omega
/-- append to a slice that has just been made, without rows. -/
theorem app_mk {e t : TypeId} {ti te : TI} (hti : tiOf Go.Proofs.Try.prog t = some ti) (hd : ti.d = .slice e) (hte : tiOf Go.Proofs.Try.prog e = some te) (hz : zeroFits Go.Proofs.Try.prog e = true) (hsz : 0 < te.size) (hby : te.bytes ≤ 128)
    {N : Mem} {src : List (List Lf)} {pb : Nat} (hr : ∀ r ∈ src, r.length = te.size) (hb : ∀ j, pb ≤ j → N j = none) (hlen : src.length ≤ 1000001) {K : AV → Mem → Prop}
    (hc : ∀ idA N', (∀ j, idA ≤ j → N j = none) → N' idA = some (.cells e src 0) → N.le N' → K (.l (.ms idA 0 src.length)) N') :
    @appI Go.Proofs.Try.prog (N.set pb (.cells e [] 0)) t t (.l (.ms pb 0 0)) (.l (.sl src)) ⟨K⟩ := by
  have hsrc : ∀ X : Mem, srcRows Go.Proofs.Try.prog X t t e te (.l (.sl src)) = some src := fun X => by
    simp only [srcRows, if_true]
    rw [if_pos hr]
  refine app_ms _ _ _ _ e _ _ hti hd hte hz hsz pb 0 _ (rows := []) (keep := 0) src (Mem.set_eq _ _ _) (hsrc _) (Nat.le_refl _) (Nat.zero_le _) ?_ ?_ ?_
  · have h1 : (0 + src.length) * te.bytes ≤ 1000001 * 128 := Nat.mul_le_mul (by omega) hby
    omega
  · omega
  · intro idA hidA
    obtain ⟨hbA, hA⟩ := bnd_new hidA
    have := hc idA (((N.set pb (.cells e [] 0)).del pb).set idA (.cells e src 0)) hA (Mem.set_eq _ _ _) fun k bk hk => by
      have := lt_of_bnd hb hk
      have := lt_of_bnd hA hk
      rw [Mem.set_ne _ _ _ _ (by omega), Mem.del_ne _ _ _ (by omega), Mem.set_ne _ _ _ _ (by omega)]
      exact hk
    simpa using this
theorem frz_oprow (id : Nat) (R : List (List Lf)) (L : List (List Opn)) : (L.map oprow).map (fun r => r.map (frzL id R)) = L.map oprow := by
  rw [List.map_map]
  exact List.map_congr_left fun l _ => rfl
theorem sm_ofM {s : Scr} (h : s.beg.length + s.ops.length + callsN s.ops ≤ 900) (hp : s.picks.length ≤ 100200) : SmS s :=
  ⟨by omega, by omega, fun l hl => by have := len_callsN' hl; omega, by unfold callsN at h; omega, by omega⟩
theorem boundMore_walk (s : Scr) (op : Opn) (p : Pr) (u0 b0 : Int) (hs : SmS s) (hth : -9223372036854775808 ≤ s.threads ∧ s.threads ≤ 9223372036854775807) (hpk : ∀ p ∈ s.picks, -9223372036854775808 ≤ p ∧ p ≤ 9223372036854775807) (M : Mem) :
    XCalls Go.Proofs.Try.prog 6 [.agg s.row, .agg op.row, .agg p.row, .l (.int .i64 u0), .l (.int .i64 b0)] M fun r M' => r = .l (.bool true) ∧ M' = M := by
  refine xcalls_intro (rs := [.tmp 10]) Go.Proofs.Try.func6 rfl (by kernel_rfl) rfl rfl (by kernel_rfl) (by simp) ?_
  have r1 := rem_u64c u0 60000 (by decide) (by decide) 60000 rfl
  have r2 := rem_u64c b0 6 (by decide) (by decide) 6 rfl
  have l1 := ridx_lt u0 (n := 60000) (by decide)
  have l2 := ridx_lt b0 (n := 6) (by decide)
  have w1 : IntKind.i64.wrap ((ridx u0 60000 : Nat) : Int) = ((ridx u0 60000 : Nat) : Int) := wrap_in (by omega) (by omega)
  have w2 : IntKind.i64.wrap ((ridx b0 6 : Nat) : Int) = ((ridx b0 6 : Nat) : Int) := wrap_in (by omega) (by omega)
  simp -implicitDefEqProofs (maxSteps := 1000000) (disch := omega) only [↓xsP, ↓vc_seq, xsQ, xsT, xsR, xsD, ↓reduceIte, reduceCtorEq, eq_self, ne_eq, imp_self, forall_const, Nat.reduceEqDiff, Nat.reduceAdd, Nat.reduceSub, Nat.reduceMul, Nat.reduceLT, Nat.reduceLeDiff, Nat.reduceBEq, Nat.reduceDiv, Nat.reduceMod, Int.reduceToNat, Int.reduceNeg, Int.reduceAdd, Int.reduceSub, Int.reduceMul, Int.reduceEq, Int.reduceNe, Int.reduceLT, Int.reduceLE, Int.reduceGT, Int.reduceGE]
  refine newI_intro fun p5 hp5 => ?_
  simp -implicitDefEqProofs (maxSteps := 1000000) (disch := omega) only [↓xsP, ↓vc_seq, xsQ, xsT, xsR, xsD, ↓reduceIte, reduceCtorEq, eq_self, ne_eq, imp_self, forall_const, Nat.reduceEqDiff, Nat.reduceAdd, Nat.reduceSub, Nat.reduceMul, Nat.reduceLT, Nat.reduceLeDiff, Nat.reduceBEq, Nat.reduceDiv, Nat.reduceMod, Int.reduceToNat, Int.reduceNeg, Int.reduceAdd, Int.reduceSub, Int.reduceMul, Int.reduceEq, Int.reduceNe, Int.reduceLT, Int.reduceLE, Int.reduceGT, Int.reduceGE]
  refine newI_intro fun p6 hp6 => ?_
  obtain ⟨h56, hp6'⟩ := bnd_new hp6
  simp -implicitDefEqProofs (maxSteps := 1000000) (disch := omega) only [↓xsP, ↓vc_seq, xsQ, xsT, xsR, xsD, ↓reduceIte, reduceCtorEq, eq_self, ne_eq, imp_self, forall_const, Nat.reduceEqDiff, Nat.reduceAdd, Nat.reduceSub, Nat.reduceMul, Nat.reduceLT, Nat.reduceLeDiff, Nat.reduceBEq, Nat.reduceDiv, Nat.reduceMod, Int.reduceToNat, Int.reduceNeg, Int.reduceAdd, Int.reduceSub, Int.reduceMul, Int.reduceEq, Int.reduceNe, Int.reduceLT, Int.reduceLE, Int.reduceGT, Int.reduceGE]
  refine newI_intro fun p7 hp7 => ?_
  obtain ⟨h67, hp7'⟩ := bnd_new hp7
  obtain ⟨h57, hp7''⟩ := bnd_new hp7'
  have hN : ∀ N : Mem, ((M.set p5 (.cells 28 [s.row] 0)).set p6 (.cells 34 [op.row] 0)).set p7 (.cells 38 [p.row] 0) = N → N p5 = some (.cells 28 [s.row] 0) ∧ N p6 = some (.cells 34 [op.row] 0) ∧ N p7 = some (.cells 38 [p.row] 0) ∧ M.le N := by
    rintro N rfl
    exact ⟨by simp (disch := omega) only [Mem.set_ne, Mem.set_eq], by simp (disch := omega) only [Mem.set_ne, Mem.set_eq], Mem.set_eq _ _ _, le_new (le_new (le_new (Mem.le_refl _) hp5) hp6') hp7''⟩
  rw [row_scr, row_opn, row_pr] at hN
  simp -implicitDefEqProofs (maxSteps := 1000000) (disch := omega) only [↓xsP, ↓vc_seq, xsQ, xsT, xsR, xsD, ↓reduceIte, reduceCtorEq, eq_self, ne_eq, imp_self, forall_const, Nat.reduceEqDiff, Nat.reduceAdd, Nat.reduceSub, Nat.reduceMul, Nat.reduceLT, Nat.reduceLeDiff, Nat.reduceBEq, Nat.reduceDiv, Nat.reduceMod, Int.reduceToNat, Int.reduceNeg, Int.reduceAdd, Int.reduceSub, Int.reduceMul, Int.reduceEq, Int.reduceNe, Int.reduceLT, Int.reduceLE, Int.reduceGT, Int.reduceGE]
  generalize ((M.set p5 _).set p6 _).set p7 _ = N at hN ⊢
  obtain ⟨hN5, hN6, hN7, hle⟩ := hN N rfl
  clear hN
  refine call_of (light_spec s hs _) ?_
  have haw : ∀ (b : Bool), True := fun _ => trivial
  by_cases hL : lightS s = 0
  rotate_left
  · have hLi : (lightS s > 0) = True := eq_true (by unfold lightS at hL ⊢; split <;> simp_all)
    simp -implicitDefEqProofs (maxSteps := 1000000) (disch := omega) only [↓xsP, ↓vc_seq, xsQ, xsT, xsR, xsD, ↓reduceIte, reduceCtorEq, eq_self, ne_eq, imp_self, forall_const, Nat.reduceEqDiff, Nat.reduceAdd, Nat.reduceSub, Nat.reduceMul, Nat.reduceLT, Nat.reduceLeDiff, Nat.reduceBEq, Nat.reduceDiv, Nat.reduceMod, Int.reduceToNat, Int.reduceNeg, Int.reduceAdd, Int.reduceSub, Int.reduceMul, Int.reduceEq, Int.reduceNe, Int.reduceLT, Int.reduceLE, Int.reduceGT, Int.reduceGE, hLi]
    refine call_of (awake24_spec _) ?_
    simp -implicitDefEqProofs (maxSteps := 1000000) (disch := omega) only [↓xsP, ↓vc_seq, xsQ, xsT, xsR, xsD, ↓reduceIte, reduceCtorEq, eq_self, ne_eq, imp_self, forall_const, Nat.reduceEqDiff, Nat.reduceAdd, Nat.reduceSub, Nat.reduceMul, Nat.reduceLT, Nat.reduceLeDiff, Nat.reduceBEq, Nat.reduceDiv, Nat.reduceMod, Int.reduceToNat, Int.reduceNeg, Int.reduceAdd, Int.reduceSub, Int.reduceMul, Int.reduceEq, Int.reduceNe, Int.reduceLT, Int.reduceLE, Int.reduceGT, Int.reduceGE]
    exact fin_ok hle ⟨rfl, rfl⟩
  have hbd : s.beg.length + s.ops.length + callsN s.ops ≤ 800 ∧ s.picks.length ≤ 100200 := by
    unfold lightS at hL
    split at hL
    · cases hL
    · omega
  rw [hL]
  simp -implicitDefEqProofs (maxSteps := 1000000) (disch := omega) only [↓xsP, ↓vc_seq, xsQ, xsT, xsR, xsD, ↓reduceIte, reduceCtorEq, eq_self, ne_eq, imp_self, forall_const, Nat.reduceEqDiff, Nat.reduceAdd, Nat.reduceSub, Nat.reduceMul, Nat.reduceLT, Nat.reduceLeDiff, Nat.reduceBEq, Nat.reduceDiv, Nat.reduceMod, Int.reduceToNat, Int.reduceNeg, Int.reduceAdd, Int.reduceSub, Int.reduceMul, Int.reduceEq, Int.reduceNe, Int.reduceLT, Int.reduceLE, Int.reduceGT, Int.reduceGE, hN5]
  refine condI_prop (fun h150 => ?_) (fun h150 => ?_)
  · simp -implicitDefEqProofs (maxSteps := 1000000) (disch := omega) only [↓xsP, ↓vc_seq, xsQ, xsT, xsR, xsD, ↓reduceIte, reduceCtorEq, eq_self, ne_eq, imp_self, forall_const, Nat.reduceEqDiff, Nat.reduceAdd, Nat.reduceSub, Nat.reduceMul, Nat.reduceLT, Nat.reduceLeDiff, Nat.reduceBEq, Nat.reduceDiv, Nat.reduceMod, Int.reduceToNat, Int.reduceNeg, Int.reduceAdd, Int.reduceSub, Int.reduceMul, Int.reduceEq, Int.reduceNe, Int.reduceLT, Int.reduceLE, Int.reduceGT, Int.reduceGE]
    refine call_of (awake24_spec _) ?_
    simp -implicitDefEqProofs (maxSteps := 1000000) (disch := omega) only [↓xsP, ↓vc_seq, xsQ, xsT, xsR, xsD, ↓reduceIte, reduceCtorEq, eq_self, ne_eq, imp_self, forall_const, Nat.reduceEqDiff, Nat.reduceAdd, Nat.reduceSub, Nat.reduceMul, Nat.reduceLT, Nat.reduceLeDiff, Nat.reduceBEq, Nat.reduceDiv, Nat.reduceMod, Int.reduceToNat, Int.reduceNeg, Int.reduceAdd, Int.reduceSub, Int.reduceMul, Int.reduceEq, Int.reduceNe, Int.reduceLT, Int.reduceLE, Int.reduceGT, Int.reduceGE]
    exact fin_ok hle ⟨rfl, rfl⟩
  simp -implicitDefEqProofs (maxSteps := 1000000) (disch := omega) only [↓xsP, ↓vc_seq, xsQ, xsT, xsR, xsD, ↓reduceIte, reduceCtorEq, eq_self, ne_eq, imp_self, forall_const, Nat.reduceEqDiff, Nat.reduceAdd, Nat.reduceSub, Nat.reduceMul, Nat.reduceLT, Nat.reduceLeDiff, Nat.reduceBEq, Nat.reduceDiv, Nat.reduceMod, Int.reduceToNat, Int.reduceNeg, Int.reduceAdd, Int.reduceSub, Int.reduceMul, Int.reduceEq, Int.reduceNe, Int.reduceLT, Int.reduceLE, Int.reduceGT, Int.reduceGE, r1, r2, w1, w2, hN5]
  generalize ridx u0 60000 = u at l1
  generalize ridx b0 6 = b at l2
  refine call_of (cells_spec s hs _) ?_
  simp -implicitDefEqProofs (maxSteps := 1000000) (disch := omega) only [↓xsP, ↓vc_seq, xsQ, xsT, xsR, xsD, ↓reduceIte, reduceCtorEq, eq_self, ne_eq, imp_self, forall_const, Nat.reduceEqDiff, Nat.reduceAdd, Nat.reduceSub, Nat.reduceMul, Nat.reduceLT, Nat.reduceLeDiff, Nat.reduceBEq, Nat.reduceDiv, Nat.reduceMod, Int.reduceToNat, Int.reduceNeg, Int.reduceAdd, Int.reduceSub, Int.reduceMul, Int.reduceEq, Int.reduceNe, Int.reduceLT, Int.reduceLE, Int.reduceGT, Int.reduceGE, hN5]
  refine xwrite (fun n0 => [ (6, n0 + 3), (7, n0 + 4), (8, n0 + 5)]) [6, 7, 8] [3, 4, 5] [[], [6], [6, 7], [], [3], [3, 4], [], [], []] (by kernel_rfl) (by kernel_rfl) (by kernel_rfl) (by kernel_rfl) (fun n0 hn0 => ⟨rfl, ?_, ?_⟩)
  · exact TOk_cons (.inr ⟨3, by decide, by decide, rfl⟩) (TOk_cons (.inr ⟨4, by decide, by decide, rfl⟩) (TOk_cons (.inr ⟨5, by decide, by decide, rfl⟩) (TOk_nil _ _)))
  have g5 := lt_of_bnd hn0 hN5
  have g6 := lt_of_bnd hn0 hN6
  have g7 := lt_of_bnd hn0 hN7
  simp -implicitDefEqProofs (maxSteps := 1000000) (disch := omega) only [↓xsP, ↓vc_seq, xsQ, xsT, xsR, xsD, ↓reduceIte, reduceCtorEq, eq_self, ne_eq, imp_self, forall_const, Nat.reduceEqDiff, Nat.reduceAdd, Nat.reduceSub, Nat.reduceMul, Nat.reduceLT, Nat.reduceLeDiff, Nat.reduceBEq, Nat.reduceDiv, Nat.reduceMod, Int.reduceToNat, Int.reduceNeg, Int.reduceAdd, Int.reduceSub, Int.reduceMul, Int.reduceEq, Int.reduceNe, Int.reduceLT, Int.reduceLE, Int.reduceGT, Int.reduceGE, hN5]
  refine ⟨.inl (by decide), .inl (by decide), .inl (by decide), ?_⟩
  have key : ∀ (X1 X2 X3 X4 X5 X6 X7 : Blk) (N3 : Mem), ((((((N.set (n0 + 3) X1).set (n0 + 4) X2).set (n0 + 5) X3).set (n0 + 3) X4).set (n0 + 4) X5).set (n0 + 5) X6).set (n0 + 3) X7 = N3 → N3 (n0 + 3) = some X7 ∧ N3 (n0 + 4) = some X5 ∧ N3 (n0 + 5) = some X6 ∧ N.le N3 := by
    rintro X1 X2 X3 X4 X5 X6 X7 N3 rfl
    refine ⟨Mem.set_eq _ _ _, ?_, ?_, fun k bk hk => ?_⟩
    · simp (disch := omega) only [Mem.set_ne, Mem.set_eq]
    · simp (disch := omega) only [Mem.set_ne, Mem.set_eq]
    · have := lt_of_bnd hn0 hk
      simp (disch := omega) only [Mem.set_ne, hk]
  generalize hN3 : Mem.set (Mem.set (Mem.set (Mem.set (Mem.set (Mem.set (Mem.set N _ _) _ _) _ _) _ _) _ _) _ _) _ _ = N3
  obtain ⟨h12, h13, h14, hle3⟩ := key _ _ _ _ _ _ _ _ hN3
  clear key hN3
  generalize hc12 : n0 + 3 = c12 at h12
  generalize hc13 : n0 + 4 = c13 at h13
  generalize hc14 : n0 + 5 = c14 at h14
  have h5 := hle3 _ _ hN5
  have h6 := hle3 _ _ hN6
  have h7 := hle3 _ _ hN7
  have hleM : M.le N3 := fun k bk hk => hle3 _ _ (hle _ _ hk)
  have hlt0 : ∀ k bk, M k = some bk → k < n0 := fun k bk hk => lt_of_bnd hn0 (hle _ _ hk)
  clear hN5 hN6 hN7
  refine newI_intro fun pb hpb => ?_
  have := lt_of_bnd hpb h5
  have := lt_of_bnd hpb h6
  have := lt_of_bnd hpb h7
  have := lt_of_bnd hpb h12
  have := lt_of_bnd hpb h13
  have := lt_of_bnd hpb h14
  simp -implicitDefEqProofs (maxSteps := 1000000) (disch := omega) only [↓xsP, ↓vc_seq, xsQ, xsT, xsR, xsD, ↓reduceIte, reduceCtorEq, eq_self, ne_eq, imp_self, forall_const, Nat.reduceEqDiff, Nat.reduceAdd, Nat.reduceSub, Nat.reduceMul, Nat.reduceLT, Nat.reduceLeDiff, Nat.reduceBEq, Nat.reduceDiv, Nat.reduceMod, Int.reduceToNat, Int.reduceNeg, Int.reduceAdd, Int.reduceSub, Int.reduceMul, Int.reduceEq, Int.reduceNe, Int.reduceLT, Int.reduceLE, Int.reduceGT, Int.reduceGE, h5]
  refine app_mk ti_25 rfl ti_32 (by kernel_rfl) (by decide) (by decide) (rows1o s.ops) hpb (by simp; omega) fun idU N4 hidU hU hle4 => ?_
  have hU13 := lt_of_bnd hidU h13
  have hU12 := lt_of_bnd hidU h12
  have hU14 := lt_of_bnd hidU h14
  have hU5 := lt_of_bnd hidU h5
  have hU6 := lt_of_bnd hidU h6
  have hU7 := lt_of_bnd hidU h7
  have h12' := hle4 _ _ h12
  have h13' := hle4 _ _ h13
  have h14' := hle4 _ _ h14
  have h5' := hle4 _ _ h5
  have h6' := hle4 _ _ h6
  have h7' := hle4 _ _ h7
  have hleM4 : M.le N4 := fun k bk hk => hle4 _ _ (hleM _ _ hk)
  rw [List.length_map]
  simp -implicitDefEqProofs (maxSteps := 1000000) (disch := omega) only [↓xsP, xsQ, xsT, xsR, xsD, ↓reduceIte, reduceCtorEq, eq_self, ne_eq, imp_self, forall_const, Nat.reduceEqDiff, Nat.reduceAdd, Nat.reduceSub, Nat.reduceMul, Nat.reduceLT, Nat.reduceLeDiff, Nat.reduceBEq, Nat.reduceDiv, Nat.reduceMod, Int.reduceToNat, Int.reduceNeg, Int.reduceAdd, Int.reduceSub, Int.reduceMul, Int.reduceEq, Int.reduceNe, Int.reduceLT, Int.reduceLE, Int.reduceGT, Int.reduceGE, h13']
  have key : ∀ (X : Blk) (N5 : Mem), N4.set c13 X = N5 → N5 c13 = some X ∧ (∀ k bk, k ≠ c13 → N4 k = some bk → N5 k = some bk) := by
    rintro X N5 rfl
    exact ⟨Mem.set_eq _ _ _, fun k bk hk h => by rw [Mem.set_ne _ _ _ _ (fun e => hk e.symm)]; exact h⟩
  generalize hN5 : Mem.set N4 c13 _ = N5
  obtain ⟨h13, hle5⟩ := key _ _ hN5
  clear key hN5
  have h12 := hle5 _ _ (by omega) h12'
  have h14 := hle5 _ _ (by omega) h14'
  have h5 := hle5 _ _ (by omega) h5'
  have h6 := hle5 _ _ (by omega) h6'
  have h7 := hle5 _ _ (by omega) h7'
  have hU := hle5 _ _ (by omega) hU
  have hleM5 : M.le N5 := fun k bk hk => hle5 _ _ (by have := hlt0 _ _ hk; omega) (hleM4 _ _ hk)
  clear h12' h13' h14' h5' h6' h7' hle4 hle3 hleM hleM4 hle5
  obtain ⟨tS, htS⟩ : ∃ tS : Scr, tS = { s with threads := if IntKind.i64.wrap (s.threads + 1) > s.threads then IntKind.i64.wrap (s.threads + 1) else s.threads } := ⟨_, rfl⟩
  refine vc_cut (fun fr' N' => ∃ N6, GStep N' N6 ∧ N6 c12 = some (.cells 28 [tS.row] 0) ∧ N6 c13 = some (.cells 28 [[.int .i64 s.threads, .int .i64 s.cells, .int .i64 s.pol.high, .int .i64 s.pol.low, .int .i64 s.pol.cont, .int .i64 s.pol.unc, .int .i64 s.pol.multi, .sl (s.beg.map Pr.row), .ms idU 0 s.ops.length, .sl (s.picks.map irow)]] 0) ∧ N6 c14 = some (.cells 28 [s.row] 0) ∧ N6 idU = some (.cells 32 ((opsU s.ops op).map oprow) 0) ∧
    N6 p5 = some (.cells 28 [s.row] 0) ∧ N6 p7 = some (.cells 38 [p.row] 0) ∧ M.le N6 ∧ fr' 3 = .l (.int .i64 u) ∧ fr' 4 = .l (.int .i64 b) ∧ fr' 5 = .l (.ptr p5 0 0) ∧ fr' 7 = .l (.ptr p7 0 0) ∧ fr' 11 = .l (.int .i64 (cellsS s)) ∧ fr' 12 = .l (.ptr c12 0 0) ∧ fr' 13 = .l (.ptr c13 0 0) ∧ fr' 14 = .l (.ptr c14 0 0)) ?_ ?_
  · rw [row_scr, row_scr, row_pr]
    have hno : opsU s.ops op = s.ops → ∃ N6, GStep N5 N6 ∧ N6 c12 = some (.cells 28 [[.int .i64 tS.threads, .int .i64 tS.cells, .int .i64 tS.pol.high, .int .i64 tS.pol.low, .int .i64 tS.pol.cont, .int .i64 tS.pol.unc, .int .i64 tS.pol.multi, .sl (tS.beg.map Pr.row), .sl (tS.ops.map oprow), .sl (tS.picks.map irow)]] 0) ∧ N6 c13 = some (.cells 28 [[.int .i64 s.threads, .int .i64 s.cells, .int .i64 s.pol.high, .int .i64 s.pol.low, .int .i64 s.pol.cont, .int .i64 s.pol.unc, .int .i64 s.pol.multi, .sl (s.beg.map Pr.row), .ms idU 0 s.ops.length, .sl (s.picks.map irow)]] 0) ∧ N6 c14 = some (.cells 28 [[.int .i64 s.threads, .int .i64 s.cells, .int .i64 s.pol.high, .int .i64 s.pol.low, .int .i64 s.pol.cont, .int .i64 s.pol.unc, .int .i64 s.pol.multi, .sl (s.beg.map Pr.row), .sl (s.ops.map oprow), .sl (s.picks.map irow)]] 0) ∧ N6 idU = some (.cells 32 ((opsU s.ops op).map oprow) 0) ∧
        N6 p5 = some (.cells 28 [[.int .i64 s.threads, .int .i64 s.cells, .int .i64 s.pol.high, .int .i64 s.pol.low, .int .i64 s.pol.cont, .int .i64 s.pol.unc, .int .i64 s.pol.multi, .sl (s.beg.map Pr.row), .sl (s.ops.map oprow), .sl (s.picks.map irow)]] 0) ∧ N6 p7 = some (.cells 38 [[.int .i64 p.key, .int .i64 p.val]] 0) ∧ M.le N6 := fun he => by
      refine ⟨N5, GStep.le (Mem.le_refl _), ?_, h13, h14, ?_, h5, h7, hleM5⟩
      · rw [h12, htS]
      · rw [he, hU]
    by_cases c1 : 0 < s.ops.length
    · have q1 : ((s.ops.length : Int) > 0) = True := eq_true (by omega)
      have hsl : (List.map oprow s.ops).length = s.ops.length := List.length_map _
      have hg0 := rg_ops s.ops 0 c1
      obtain ⟨l0, hl0⟩ : ∃ l0, s.ops.getD 0 default = l0 := ⟨_, rfl⟩
      rw [hl0, row_ops] at hg0
      have hc0 : l0.length ≤ 800 := by
        have := len_callsN' (L := s.ops) (l := l0) (by rw [← hl0]; exact mem_getD c1)
        omega
      simp -implicitDefEqProofs (maxSteps := 1000000) (disch := omega) only [↓xsP, ↓vc_seq, xsQ, xsT, xsR, xsD, ↓reduceIte, reduceCtorEq, eq_self, ne_eq, imp_self, forall_const, Nat.reduceEqDiff, Nat.reduceAdd, Nat.reduceSub, Nat.reduceMul, Nat.reduceLT, Nat.reduceLeDiff, Nat.reduceBEq, Nat.reduceDiv, Nat.reduceMod, Int.reduceToNat, Int.reduceNeg, Int.reduceAdd, Int.reduceSub, Int.reduceMul, Int.reduceEq, Int.reduceNe, Int.reduceLT, Int.reduceLE, Int.reduceGT, Int.reduceGE, h13, hU, q1, hg0]
      refine condI_prop (fun c2 => ?_) (fun c2 => ?_)
      · have hop : opsU s.ops op = s.ops.set 0 (l0 ++ [op]) := by rw [opsU, hl0, if_pos ⟨c1, by omega⟩]
        simp -implicitDefEqProofs (maxSteps := 1000000) (disch := omega) only [↓xsP, ↓vc_seq, xsQ, xsT, xsR, xsD, ↓reduceIte, reduceCtorEq, eq_self, ne_eq, imp_self, forall_const, Nat.reduceEqDiff, Nat.reduceAdd, Nat.reduceSub, Nat.reduceMul, Nat.reduceLT, Nat.reduceLeDiff, Nat.reduceBEq, Nat.reduceDiv, Nat.reduceMod, Int.reduceToNat, Int.reduceNeg, Int.reduceAdd, Int.reduceSub, Int.reduceMul, Int.reduceEq, Int.reduceNe, Int.reduceLT, Int.reduceLE, Int.reduceGT, Int.reduceGE, h13, hU, h6]
        refine xwrite (fun n0 => [ (7, n0 + 2), (10, n0 + 7), (12, idU)]) [7, 10, 12] [2, 7, 9, 10] [[7, 10], [7, 10], [], [2], [2], [2], [2], [], [7, 2], [7, 2], [], [], []] (by kernel_rfl) (by kernel_rfl) (by kernel_rfl) (by kernel_rfl) (fun n0 hn0 => ⟨rfl, ?_, ?_⟩)
        · exact TOk_cons (.inr ⟨2, by decide, by decide, rfl⟩) (TOk_cons (.inr ⟨7, by decide, by decide, rfl⟩) (TOk_cons (.inl (lt_of_bnd hn0 hU)) (TOk_nil _ _)))
        · have k1 := lt_of_bnd hn0 hU
          have k2 := lt_of_bnd hn0 h13
          have k3 := lt_of_bnd hn0 h6
          simp -implicitDefEqProofs (maxSteps := 1000000) (disch := omega) only [↓xsP, ↓vc_seq, xsQ, xsT, xsR, xsD, ↓reduceIte, reduceCtorEq, eq_self, ne_eq, imp_self, forall_const, Nat.reduceEqDiff, Nat.reduceAdd, Nat.reduceSub, Nat.reduceMul, Nat.reduceLT, Nat.reduceLeDiff, Nat.reduceBEq, Nat.reduceDiv, Nat.reduceMod, Int.reduceToNat, Int.reduceNeg, Int.reduceAdd, Int.reduceSub, Int.reduceMul, Int.reduceEq, Int.reduceNe, Int.reduceLT, Int.reduceLE, Int.reduceGT, Int.reduceGE, h13, hU, h6, hg0]
          refine ⟨.inl (by decide), ?_⟩
          refine wapp_ms _ _ _ _ _ 34 _ _ ti_32 rfl ti_34 (by kernel_rfl) (by decide) (n0 + 2) 0 _ (rows := []) (keep := 0) (l0.map Opn.row) (Mem.set_eq _ _ _) ?_ (Nat.le_refl _) (Nat.zero_le _) ?_ ?_ ?_
          · simp -implicitDefEqProofs (maxSteps := 1000000) (disch := omega) only [↓xsP, ↓vc_seq, xsQ, xsT, xsR, xsD, ↓reduceIte, reduceCtorEq, eq_self, ne_eq, imp_self, forall_const, Nat.reduceEqDiff, Nat.reduceAdd, Nat.reduceSub, Nat.reduceMul, Nat.reduceLT, Nat.reduceLeDiff, Nat.reduceBEq, Nat.reduceDiv, Nat.reduceMod, Int.reduceToNat, Int.reduceNeg, Int.reduceAdd, Int.reduceSub, Int.reduceMul, Int.reduceEq, Int.reduceNe, Int.reduceLT, Int.reduceLE, Int.reduceGT, Int.reduceGE]
            rw [if_pos (rows4 l0)]
          · exact Nat.le_trans (Nat.mul_le_mul_right _ (show 0 + (l0.map Opn.row).length ≤ 1000 by simp; omega)) (by decide)
          · simp
            omega
          simp -implicitDefEqProofs (maxSteps := 1000000) (disch := omega) only [↓xsP, ↓vc_seq, xsQ, xsT, xsR, xsD, ↓reduceIte, reduceCtorEq, eq_self, ne_eq, imp_self, forall_const, Nat.reduceEqDiff, Nat.reduceAdd, Nat.reduceSub, Nat.reduceMul, Nat.reduceLT, Nat.reduceLeDiff, Nat.reduceBEq, Nat.reduceDiv, Nat.reduceMod, Int.reduceToNat, Int.reduceNeg, Int.reduceAdd, Int.reduceSub, Int.reduceMul, Int.reduceEq, Int.reduceNe, Int.reduceLT, Int.reduceLE, Int.reduceGT, Int.reduceGE, h13, hU, h6, hg0]
          refine ⟨.inl (by decide), .inl (by decide), ?_⟩
          refine wapp_ms _ _ _ _ _ 34 _ _ ti_32 rfl ti_34 (by kernel_rfl) (by decide) (n0 + 7) l0.length _ (rows := l0.map Opn.row) (keep := 0) [op.row] ?_ ?_ (by simp) (Nat.zero_le _) ?_ ?_ ?_
          · simp (disch := omega) only [Mem.set_ne, Mem.set_eq]
          · simp -implicitDefEqProofs (maxSteps := 1000000) (disch := omega) only [↓xsP, ↓vc_seq, xsQ, xsT, xsR, xsD, ↓reduceIte, reduceCtorEq, eq_self, ne_eq, imp_self, forall_const, Nat.reduceEqDiff, Nat.reduceAdd, Nat.reduceSub, Nat.reduceMul, Nat.reduceLT, Nat.reduceLeDiff, Nat.reduceBEq, Nat.reduceDiv, Nat.reduceMod, Int.reduceToNat, Int.reduceNeg, Int.reduceAdd, Int.reduceSub, Int.reduceMul, Int.reduceEq, Int.reduceNe, Int.reduceLT, Int.reduceLE, Int.reduceGT, Int.reduceGE]
          · exact Nat.le_trans (Nat.mul_le_mul_right _ (show l0.length + [op.row].length ≤ 1000 by simp; omega)) (by decide)
          · simp
            omega
          simp -implicitDefEqProofs (maxSteps := 1000000) (disch := omega) only [↓xsP, ↓vc_seq, xsQ, xsT, xsR, xsD, ↓reduceIte, reduceCtorEq, eq_self, ne_eq, imp_self, forall_const, Nat.reduceEqDiff, Nat.reduceAdd, Nat.reduceSub, Nat.reduceMul, Nat.reduceLT, Nat.reduceLeDiff, Nat.reduceBEq, Nat.reduceDiv, Nat.reduceMod, Int.reduceToNat, Int.reduceNeg, Int.reduceAdd, Int.reduceSub, Int.reduceMul, Int.reduceEq, Int.reduceNe, Int.reduceLT, Int.reduceLE, Int.reduceGT, Int.reduceGE, h13, hU, h6, hg0]
          refine ⟨.inl (by decide), ?_⟩
          rw [List.take_of_length_le (show (l0.map Opn.row).length ≤ l0.length by simp)]
          have key : ∀ (X1 X2 X3 X4 X5 : Blk) (Q : Mem), ((((((N5.set (n0 + 2) X1).del (n0 + 2)).set (n0 + 7) X2).set (n0 + 9) X3).del (n0 + 7)).set (n0 + 10) X4).set idU X5 = Q → Q (n0 + 10) = some X4 ∧ Q idU = some X5 ∧ ∀ k bk, k ≠ idU → N5 k = some bk → Q k = some bk ∧ k < n0 := by
            rintro X1 X2 X3 X4 X5 Q rfl
            refine ⟨by simp (disch := omega) only [Mem.set_ne, Mem.set_eq], Mem.set_eq _ _ _, fun k bk hk h => ?_⟩
            have := lt_of_bnd hn0 h
            exact ⟨by simp (disch := omega) only [Mem.set_ne, Mem.del_ne, h], this⟩
          generalize hQ : Mem.set (Mem.set (Mem.del (Mem.set (Mem.set (Mem.del (Mem.set N5 _ _) _) _ _) _ _) _) _ _) _ _ = Q
          obtain ⟨hQX, hQU, hQo⟩ := key _ _ _ _ _ _ hQ
          have hg := GStep.frz_in hQX hQU (by omega)
          have er : (((List.map oprow s.ops).set 0 [Lf.ms (n0 + 10) 0 (l0.length + 1)]).map fun r => r.map (frzL (n0 + 10) (l0.map Opn.row ++ [[.int .i64 op.kind, .int .i64 op.key, .int .i64 op.to, .int .i64 op.val]]))) = (opsU s.ops op).map oprow := by
            rw [hop, List.map_set, List.map_set, frz_oprow]
            congr 1
            simp [frzL, oprow, Opn.row]
            rw [List.take_of_length_le (by simp)]
          rw [er] at hg
          have ho : ∀ X k bk, k ≠ idU → N5 k = some bk → ((Q.set (n0 + 10) X).set idU (.cells 32 ((opsU s.ops op).map oprow) 0)) k = some bk := fun X k bk hk h => by
            obtain ⟨h1, h2⟩ := hQo k bk hk h
            rw [Mem.set_ne _ _ _ _ (fun e => hk e.symm), Mem.set_ne _ _ _ _ (by omega)]
            exact h1
          refine ⟨_, hg, by rw [htS]; exact ho _ _ _ (by omega) h12, ho _ _ _ (by omega) h13, ho _ _ _ (by omega) h14, Mem.set_eq _ _ _, ho _ _ _ (by omega) h5, ho _ _ _ (by omega) h7, fun k bk hk => ho _ _ _ (by have := hlt0 _ _ hk; omega) (hleM5 _ _ hk)⟩
      · have hop : opsU s.ops op = s.ops := by rw [opsU, hl0, if_neg (by omega)]
        simp -implicitDefEqProofs (maxSteps := 1000000) (disch := omega) only [↓xsP, ↓vc_seq, xsQ, xsT, xsR, xsD, ↓reduceIte, reduceCtorEq, eq_self, ne_eq, imp_self, forall_const, Nat.reduceEqDiff, Nat.reduceAdd, Nat.reduceSub, Nat.reduceMul, Nat.reduceLT, Nat.reduceLeDiff, Nat.reduceBEq, Nat.reduceDiv, Nat.reduceMod, Int.reduceToNat, Int.reduceNeg, Int.reduceAdd, Int.reduceSub, Int.reduceMul, Int.reduceEq, Int.reduceNe, Int.reduceLT, Int.reduceLE, Int.reduceGT, Int.reduceGE]
        exact hno hop
    · have q1 : ((s.ops.length : Int) > 0) = False := eq_false (by omega)
      have hop : opsU s.ops op = s.ops := by rw [opsU, if_neg (by omega)]
      simp -implicitDefEqProofs (maxSteps := 1000000) (disch := omega) only [↓xsP, ↓vc_seq, xsQ, xsT, xsR, xsD, ↓reduceIte, reduceCtorEq, eq_self, ne_eq, imp_self, forall_const, Nat.reduceEqDiff, Nat.reduceAdd, Nat.reduceSub, Nat.reduceMul, Nat.reduceLT, Nat.reduceLeDiff, Nat.reduceBEq, Nat.reduceDiv, Nat.reduceMod, Int.reduceToNat, Int.reduceNeg, Int.reduceAdd, Int.reduceSub, Int.reduceMul, Int.reduceEq, Int.reduceNe, Int.reduceLT, Int.reduceLE, Int.reduceGT, Int.reduceGE, h13, hU, q1]
      exact hno hop
  · clear hU h12 h13 h14 h5 h6 h7 hleM5
    rintro fr N5 ⟨N6, hgs, h12, h13, h14, hU, h5, h7, hleM, g3, g4, g5, g7, g11, g12, g13, g14⟩
    have h5r := h5
    have h7r := h7
    have h14r := h14
    rw [row_scr] at h5 h14
    rw [row_pr] at h7
    have hsz : s.beg.length ≤ 150 := by omega
    simp -implicitDefEqProofs (maxSteps := 1000000) (disch := omega) only [↓xsP, ↓vc_seq, xsQ, xsT, xsR, xsD, ↓reduceIte, reduceCtorEq, eq_self, ne_eq, imp_self, forall_const, Nat.reduceEqDiff, Nat.reduceAdd, Nat.reduceSub, Nat.reduceMul, Nat.reduceLT, Nat.reduceLeDiff, Nat.reduceBEq, Nat.reduceDiv, Nat.reduceMod, Int.reduceToNat, Int.reduceNeg, Int.reduceAdd, Int.reduceSub, Int.reduceMul, Int.reduceEq, Int.reduceNe, Int.reduceLT, Int.reduceLE, Int.reduceGT, Int.reduceGE]
    refine drawI_gs hgs ?_
    refine xwrite (fun n0 => [ (3, n0 + 0), (6, n0 + 3), (8, c14)]) [3, 6, 8] [0, 3, 5, 6] [[], [0], [0], [], [3, 0], [3, 0], [], [], []] (by kernel_rfl) (by kernel_rfl) (by kernel_rfl) (by kernel_rfl) (fun n0 hn0 => ⟨rfl, ?_, ?_⟩)
    · exact TOk_cons (.inr ⟨0, by decide, by decide, rfl⟩) (TOk_cons (.inr ⟨3, by decide, by decide, rfl⟩) (TOk_cons (.inl (lt_of_bnd hn0 h14)) (TOk_nil _ _)))
    · have k1 := lt_of_bnd hn0 hU
      have k2 := lt_of_bnd hn0 h13
      have k3 := lt_of_bnd hn0 h14
      have k4 := lt_of_bnd hn0 h12
      simp -implicitDefEqProofs (maxSteps := 1000000) (disch := omega) only [↓xsP, ↓vc_seq, xsQ, xsT, xsR, xsD, ↓reduceIte, reduceCtorEq, eq_self, ne_eq, imp_self, forall_const, Nat.reduceEqDiff, Nat.reduceAdd, Nat.reduceSub, Nat.reduceMul, Nat.reduceLT, Nat.reduceLeDiff, Nat.reduceBEq, Nat.reduceDiv, Nat.reduceMod, Int.reduceToNat, Int.reduceNeg, Int.reduceAdd, Int.reduceSub, Int.reduceMul, Int.reduceEq, Int.reduceNe, Int.reduceLT, Int.reduceLE, Int.reduceGT, Int.reduceGE, g3, g4, g5, g7, g11, g12, g13, g14, h5, h7, h14]
      refine ⟨.inl (by decide), ?_⟩
      refine wapp_ms _ _ _ _ _ 38 _ _ ti_24 rfl ti_38 (by kernel_rfl) (by decide) n0 0 _ (rows := []) (keep := 0) (s.beg.map Pr.row) (Mem.set_eq _ _ _) ?_ (Nat.le_refl _) (Nat.zero_le _) ?_ ?_ ?_
      · simp -implicitDefEqProofs (maxSteps := 1000000) (disch := omega) only [↓xsP, ↓vc_seq, xsQ, xsT, xsR, xsD, ↓reduceIte, reduceCtorEq, eq_self, ne_eq, imp_self, forall_const, Nat.reduceEqDiff, Nat.reduceAdd, Nat.reduceSub, Nat.reduceMul, Nat.reduceLT, Nat.reduceLeDiff, Nat.reduceBEq, Nat.reduceDiv, Nat.reduceMod, Int.reduceToNat, Int.reduceNeg, Int.reduceAdd, Int.reduceSub, Int.reduceMul, Int.reduceEq, Int.reduceNe, Int.reduceLT, Int.reduceLE, Int.reduceGT, Int.reduceGE]
        rw [if_pos (rows2 s.beg)]
      · exact Nat.le_trans (Nat.mul_le_mul_right _ (show 0 + (s.beg.map Pr.row).length ≤ 1000 by simp; omega)) (by decide)
      · simp
        omega
      simp -implicitDefEqProofs (maxSteps := 1000000) (disch := omega) only [↓xsP, ↓vc_seq, xsQ, xsT, xsR, xsD, ↓reduceIte, reduceCtorEq, eq_self, ne_eq, imp_self, forall_const, Nat.reduceEqDiff, Nat.reduceAdd, Nat.reduceSub, Nat.reduceMul, Nat.reduceLT, Nat.reduceLeDiff, Nat.reduceBEq, Nat.reduceDiv, Nat.reduceMod, Int.reduceToNat, Int.reduceNeg, Int.reduceAdd, Int.reduceSub, Int.reduceMul, Int.reduceEq, Int.reduceNe, Int.reduceLT, Int.reduceLE, Int.reduceGT, Int.reduceGE, g3, g4, g5, g7, g11, g12, g13, g14, h5, h7, h14]
      refine ⟨.inl (by decide), .inl (by decide), ?_⟩
      refine wapp_ms _ _ _ _ _ 38 _ _ ti_24 rfl ti_38 (by kernel_rfl) (by decide) (n0 + 3) s.beg.length _ (rows := s.beg.map Pr.row) (keep := 0) [p.row] ?_ ?_ (by simp) (Nat.zero_le _) ?_ ?_ ?_
      · simp (disch := omega) only [Mem.set_ne, Mem.set_eq]
      · simp -implicitDefEqProofs (maxSteps := 1000000) (disch := omega) only [↓xsP, ↓vc_seq, xsQ, xsT, xsR, xsD, ↓reduceIte, reduceCtorEq, eq_self, ne_eq, imp_self, forall_const, Nat.reduceEqDiff, Nat.reduceAdd, Nat.reduceSub, Nat.reduceMul, Nat.reduceLT, Nat.reduceLeDiff, Nat.reduceBEq, Nat.reduceDiv, Nat.reduceMod, Int.reduceToNat, Int.reduceNeg, Int.reduceAdd, Int.reduceSub, Int.reduceMul, Int.reduceEq, Int.reduceNe, Int.reduceLT, Int.reduceLE, Int.reduceGT, Int.reduceGE]
      · exact Nat.le_trans (Nat.mul_le_mul_right _ (show s.beg.length + [p.row].length ≤ 1000 by simp; omega)) (by decide)
      · simp
        omega
      simp -implicitDefEqProofs (maxSteps := 1000000) (disch := omega) only [↓xsP, ↓vc_seq, xsQ, xsT, xsR, xsD, ↓reduceIte, reduceCtorEq, eq_self, ne_eq, imp_self, forall_const, Nat.reduceEqDiff, Nat.reduceAdd, Nat.reduceSub, Nat.reduceMul, Nat.reduceLT, Nat.reduceLeDiff, Nat.reduceBEq, Nat.reduceDiv, Nat.reduceMod, Int.reduceToNat, Int.reduceNeg, Int.reduceAdd, Int.reduceSub, Int.reduceMul, Int.reduceEq, Int.reduceNe, Int.reduceLT, Int.reduceLE, Int.reduceGT, Int.reduceGE, g3, g4, g5, g7, g11, g12, g13, g14, h5, h7, h14, h12]
      refine ⟨.inl (by decide), ?_⟩
      rw [List.take_of_length_le (show (s.beg.map Pr.row).length ≤ s.beg.length by simp)]
      have key : ∀ (X1 X2 X3 X4 X5 : Blk) (Q : Mem), ((((((N6.set n0 X1).del n0).set (n0 + 3) X2).set (n0 + 5) X3).del (n0 + 3)).set (n0 + 6) X4).set c14 X5 = Q → Q (n0 + 6) = some X4 ∧ Q c14 = some X5 ∧ ∀ k bk, k ≠ c14 → N6 k = some bk → Q k = some bk ∧ k < n0 := by
        rintro X1 X2 X3 X4 X5 Q rfl
        refine ⟨by simp (disch := omega) only [Mem.set_ne, Mem.set_eq], Mem.set_eq _ _ _, fun k bk hk h => ?_⟩
        have := lt_of_bnd hn0 h
        exact ⟨by simp (disch := omega) only [Mem.set_ne, Mem.del_ne, h], this⟩
      generalize hQ : Mem.set (Mem.set (Mem.del (Mem.set (Mem.set (Mem.del (Mem.set N6 _ _) _) _ _) _ _) _) _ _) _ _ = Q
      obtain ⟨hQX, hQV, hQo⟩ := key _ _ _ _ _ _ hQ
      clear key hQ
      obtain ⟨uS, huS⟩ : ∃ uS : Scr, uS = { s with ops := opsU s.ops op } := ⟨_, rfl⟩
      obtain ⟨vS, hvS⟩ : ∃ vS : Scr, vS = { s with beg := s.beg ++ [p] } := ⟨_, rfl⟩
      have hlU := opsU_len s.ops op
      have g1 := GStep.frz_in (hQo _ _ (by omega) hU).1 (hQo _ _ (by omega) h13).1 (by omega)
      have er : ([[.int .i64 s.threads, .int .i64 s.cells, .int .i64 s.pol.high, .int .i64 s.pol.low, .int .i64 s.pol.cont, .int .i64 s.pol.unc, .int .i64 s.pol.multi, .sl (s.beg.map Pr.row), .ms idU 0 s.ops.length, .sl (s.picks.map irow)]].map fun r => r.map (frzL idU ((opsU s.ops op).map oprow)) : List (List Lf)) = [uS.row] := by
        simp [frzL, huS, Scr.row]
        rw [if_pos (by omega), List.take_of_length_le (by simp [hlU])]
      rw [er] at g1
      have hQ1 : ∀ X, ∃ Q1 : Mem, (Q.set idU X).set c13 (.cells 28 [uS.row] 0) = Q1 ∧ Q1 c13 = some (.cells 28 [uS.row] 0) ∧ (∀ k bk, k ≠ c13 → k ≠ idU → Q k = some bk → Q1 k = some bk) := by
        intro X
        refine ⟨_, rfl, Mem.set_eq _ _ _, fun k bk hk hk' h => ?_⟩
        rw [Mem.set_ne _ _ _ _ (fun e => hk e.symm), Mem.set_ne _ _ _ _ (fun e => hk' e.symm)]
        exact h
      obtain ⟨Q1, e1, hQ1U, hQ1o⟩ := hQ1 _
      rw [e1] at g1
      have g2 := GStep.frz_in (hQ1o _ _ (by omega) (by omega) hQX) (hQ1o _ _ (by omega) (by omega) hQV) (by omega)
      have er2 : ([[.int .i64 s.threads, .int .i64 s.cells, .int .i64 s.pol.high, .int .i64 s.pol.low, .int .i64 s.pol.cont, .int .i64 s.pol.unc, .int .i64 s.pol.multi, .ms (n0 + 6) 0 (s.beg.length + 1), .sl (s.ops.map oprow), .sl (s.picks.map irow)]].map fun r => r.map (frzL (n0 + 6) (s.beg.map Pr.row ++ [[.int .i64 p.key, .int .i64 p.val]])) : List (List Lf)) = [vS.row] := by
        simp [frzL, hvS, Scr.row, Pr.row]
        rw [List.take_of_length_le (by simp)]
      rw [er2] at g2
      have hQ2 : ∀ X, ∃ Q2 : Mem, (Q1.set (n0 + 6) X).set c14 (.cells 28 [vS.row] 0) = Q2 ∧ Q2 c14 = some (.cells 28 [vS.row] 0) ∧ (∀ k bk, k ≠ c14 → k ≠ n0 + 6 → Q1 k = some bk → Q2 k = some bk) := by
        intro X
        refine ⟨_, rfl, Mem.set_eq _ _ _, fun k bk hk hk' h => ?_⟩
        rw [Mem.set_ne _ _ _ _ (fun e => hk e.symm), Mem.set_ne _ _ _ _ (fun e => hk' e.symm)]
        exact h
      obtain ⟨Q2, e2, h14v, hQ2o⟩ := hQ2 _
      rw [e2] at g2
      have hall : ∀ k bk, k ≠ c13 → k ≠ c14 → k ≠ idU → N6 k = some bk → Q2 k = some bk := fun k bk a1 a2 a3 h => by
        obtain ⟨b1, b2⟩ := hQo _ _ a2 h
        exact hQ2o _ _ a2 (by omega) (hQ1o _ _ a1 a3 b1)
      have h13u := hQ2o _ _ (by omega) (by omega) hQ1U
      have h12 := hall _ _ (by omega) (by omega) (by omega) h12
      have h5 := hall _ _ (by omega) (by omega) (by omega) h5r
      have hleQ : M.le Q2 := fun k bk hk => hall _ _ (by have := hlt0 _ _ hk; omega) (by have := hlt0 _ _ hk; omega) (by have := hlt0 _ _ hk; omega) (hleM _ _ hk)
      clear hall hQ1o hQ2o hQo hQX hQV hQ1U hU h7 h7r h13 h14 h14r h5r hgs
      refine callI_gs (g1.trans g2) ?_
      clear g1 g2 er er2 e1 e2
      have hsmT : SmS tS := sm_ofM (by rw [htS]; exact Nat.le_trans hbd.1 (by decide)) (by rw [htS]; exact hbd.2)
      have hcU := opsU_calls s.ops op
      have hsmU : SmS uS := sm_ofM (by rw [huS]; show s.beg.length + (opsU s.ops op).length + callsN (opsU s.ops op) ≤ 900; omega) (by rw [huS]; exact hbd.2)
      have hsmV : SmS vS := sm_ofM (by rw [hvS]; show (s.beg ++ [p]).length + s.ops.length + callsN s.ops ≤ 900; rw [List.length_append, List.length_singleton]; omega) (by rw [hvS]; exact hbd.2)
      have hcT : cellsS tS ≥ cellsS s := by rw [htS]; exact cells_thr (by omega)
      have hcUU : cellsS uS ≥ cellsS s := by rw [huS]; exact cells_ops fun t => opsU_row _ _ t
      have hcV : cellsS vS ≥ cellsS s := by rw [hvS]; exact cells_beg s p
      have hr := row_scr tS
      refine call_of (v := .l (.int .i64 (cellsS tS))) (by rw [← row_scr]; exact cells_spec tS hsmT _) ?_
      have qT : (cellsS tS ≥ cellsS s) = True := eq_true hcT
      have qU : (cellsS uS ≥ cellsS s) = True := eq_true hcUU
      have qV : (cellsS vS ≥ cellsS s) = True := eq_true hcV
      simp -implicitDefEqProofs (maxSteps := 1000000) (disch := omega) only [↓xsP, ↓vc_seq, xsQ, xsT, xsR, xsD, ↓reduceIte, reduceCtorEq, eq_self, ne_eq, imp_self, forall_const, Nat.reduceEqDiff, Nat.reduceAdd, Nat.reduceSub, Nat.reduceMul, Nat.reduceLT, Nat.reduceLeDiff, Nat.reduceBEq, Nat.reduceDiv, Nat.reduceMod, Int.reduceToNat, Int.reduceNeg, Int.reduceAdd, Int.reduceSub, Int.reduceMul, Int.reduceEq, Int.reduceNe, Int.reduceLT, Int.reduceLE, Int.reduceGT, Int.reduceGE, h13u, g3, g4, g5, g7, g11, g12, g13, g14, qT]
      refine call_of (v := .l (.int .i64 (cellsS uS))) (by rw [← row_scr]; exact cells_spec uS hsmU _) ?_
      simp -implicitDefEqProofs (maxSteps := 1000000) (disch := omega) only [↓xsP, ↓vc_seq, xsQ, xsT, xsR, xsD, ↓reduceIte, reduceCtorEq, eq_self, ne_eq, imp_self, forall_const, Nat.reduceEqDiff, Nat.reduceAdd, Nat.reduceSub, Nat.reduceMul, Nat.reduceLT, Nat.reduceLeDiff, Nat.reduceBEq, Nat.reduceDiv, Nat.reduceMod, Int.reduceToNat, Int.reduceNeg, Int.reduceAdd, Int.reduceSub, Int.reduceMul, Int.reduceEq, Int.reduceNe, Int.reduceLT, Int.reduceLE, Int.reduceGT, Int.reduceGE, h14v, g3, g4, g5, g7, g11, g12, g13, g14, qU]
      refine call_of (v := .l (.int .i64 (cellsS vS))) (by rw [← row_scr]; exact cells_spec vS hsmV _) ?_
      have hlo := cellsS_ge s
      have hhi := cellsS_le s
      simp -implicitDefEqProofs (maxSteps := 1000000) (disch := omega) only [↓xsP, ↓vc_seq, xsQ, xsT, xsR, xsD, ↓reduceIte, reduceCtorEq, eq_self, ne_eq, imp_self, forall_const, Nat.reduceEqDiff, Nat.reduceAdd, Nat.reduceSub, Nat.reduceMul, Nat.reduceLT, Nat.reduceLeDiff, Nat.reduceBEq, Nat.reduceDiv, Nat.reduceMod, Int.reduceToNat, Int.reduceNeg, Int.reduceAdd, Int.reduceSub, Int.reduceMul, Int.reduceEq, Int.reduceNe, Int.reduceLT, Int.reduceLE, Int.reduceGT, Int.reduceGE, g3, g4, g5, g7, g11, g12, g13, g14, qV]
      have q3 : (cellsS s ≥ 300) = True := eq_true (by omega)
      have q6 : (cellsS s ≤ 60000) = True := eq_true hhi
      have w3 : IntKind.i64.wrap ((u : Int) + 1) = (u : Int) + 1 := wrap_in (by omega) (by omega)
      have w4 : IntKind.i64.wrap ((b : Int) + 1) = (b : Int) + 1 := wrap_in (by omega) (by omega)
      have su := steps_u l1 l2
      have sb := steps_b l1 l2
      simp -implicitDefEqProofs (maxSteps := 1000000) (disch := omega) only [↓xsP, ↓vc_seq, xsQ, xsT, xsR, xsD, ↓reduceIte, reduceCtorEq, eq_self, ne_eq, imp_self, forall_const, Nat.reduceEqDiff, Nat.reduceAdd, Nat.reduceSub, Nat.reduceMul, Nat.reduceLT, Nat.reduceLeDiff, Nat.reduceBEq, Nat.reduceDiv, Nat.reduceMod, Int.reduceToNat, Int.reduceNeg, Int.reduceAdd, Int.reduceSub, Int.reduceMul, Int.reduceEq, Int.reduceNe, Int.reduceLT, Int.reduceLE, Int.reduceGT, Int.reduceGE, g3, g4, g11, q3, q6, w3, w4]
      refine call_of (steps_spec _ b _) ?_
      simp -implicitDefEqProofs (maxSteps := 1000000) (disch := omega) only [↓xsP, ↓vc_seq, xsQ, xsT, xsR, xsD, ↓reduceIte, reduceCtorEq, eq_self, ne_eq, imp_self, forall_const, Nat.reduceEqDiff, Nat.reduceAdd, Nat.reduceSub, Nat.reduceMul, Nat.reduceLT, Nat.reduceLeDiff, Nat.reduceBEq, Nat.reduceDiv, Nat.reduceMod, Int.reduceToNat, Int.reduceNeg, Int.reduceAdd, Int.reduceSub, Int.reduceMul, Int.reduceEq, Int.reduceNe, Int.reduceLT, Int.reduceLE, Int.reduceGT, Int.reduceGE, g3, g4]
      refine call_of (steps_spec _ b _) ?_
      have qsu : (stepsI ((u : Int) + 1) b > stepsI u b) = True := eq_true su
      have qsb : (stepsI u ((b : Int) + 1) > stepsI u b) = True := eq_true sb
      simp -implicitDefEqProofs (maxSteps := 1000000) (disch := omega) only [↓xsP, ↓vc_seq, xsQ, xsT, xsR, xsD, ↓reduceIte, reduceCtorEq, eq_self, ne_eq, imp_self, forall_const, Nat.reduceEqDiff, Nat.reduceAdd, Nat.reduceSub, Nat.reduceMul, Nat.reduceLT, Nat.reduceLeDiff, Nat.reduceBEq, Nat.reduceDiv, Nat.reduceMod, Int.reduceToNat, Int.reduceNeg, Int.reduceAdd, Int.reduceSub, Int.reduceMul, Int.reduceEq, Int.reduceNe, Int.reduceLT, Int.reduceLE, Int.reduceGT, Int.reduceGE, g3, g4, w3, w4, qsu]
      refine call_of (steps_spec u _ _) ?_
      simp -implicitDefEqProofs (maxSteps := 1000000) (disch := omega) only [↓xsP, ↓vc_seq, xsQ, xsT, xsR, xsD, ↓reduceIte, reduceCtorEq, eq_self, ne_eq, imp_self, forall_const, Nat.reduceEqDiff, Nat.reduceAdd, Nat.reduceSub, Nat.reduceMul, Nat.reduceLT, Nat.reduceLeDiff, Nat.reduceBEq, Nat.reduceDiv, Nat.reduceMod, Int.reduceToNat, Int.reduceNeg, Int.reduceAdd, Int.reduceSub, Int.reduceMul, Int.reduceEq, Int.reduceNe, Int.reduceLT, Int.reduceLE, Int.reduceGT, Int.reduceGE, g3, g4, w3, w4, qsu]
      refine call_of (steps_spec u b _) ?_
      simp -implicitDefEqProofs (maxSteps := 1000000) (disch := omega) only [↓xsP, ↓vc_seq, xsQ, xsT, xsR, xsD, ↓reduceIte, reduceCtorEq, eq_self, ne_eq, imp_self, forall_const, Nat.reduceEqDiff, Nat.reduceAdd, Nat.reduceSub, Nat.reduceMul, Nat.reduceLT, Nat.reduceLeDiff, Nat.reduceBEq, Nat.reduceDiv, Nat.reduceMod, Int.reduceToNat, Int.reduceNeg, Int.reduceAdd, Int.reduceSub, Int.reduceMul, Int.reduceEq, Int.reduceNe, Int.reduceLT, Int.reduceLE, Int.reduceGT, Int.reduceGE, g3, g4, w3, w4, qsu, qsb]
      refine call_of (awake24_spec _) ?_
      simp -implicitDefEqProofs (maxSteps := 1000000) (disch := omega) only [↓xsP, ↓vc_seq, xsQ, xsT, xsR, xsD, ↓reduceIte, reduceCtorEq, eq_self, ne_eq, imp_self, forall_const, Nat.reduceEqDiff, Nat.reduceAdd, Nat.reduceSub, Nat.reduceMul, Nat.reduceLT, Nat.reduceLeDiff, Nat.reduceBEq, Nat.reduceDiv, Nat.reduceMod, Int.reduceToNat, Int.reduceNeg, Int.reduceAdd, Int.reduceSub, Int.reduceMul, Int.reduceEq, Int.reduceNe, Int.reduceLT, Int.reduceLE, Int.reduceGT, Int.reduceGE]
      exact fin_ok hleQ ⟨rfl, rfl⟩
end Go.X
