/- Texts joined: Mb Mc Md Oc Oe Yi Og Oh Oi Ok Nb Nc Nd Ne Nf Ng Nh Nk Ye Nl Zd Ua Uc Ud Ue Uf Ug. -/
import Derived.Lib.ItoaLen
import Derived.Test.YtlebigkdpalhjaaDoorY3
set_option linter.unusedVariables false
set_option linter.unusedSimpArgs false
set_option maxHeartbeats 20000000
set_option maxRecDepth 100000
namespace Go.X
open Go.Proofs.Tryd (prog)

/-- A row of pairs that is being made by append: its slice and the memory. -/
def OutP (M : Mem) (v : AV) (M' : Mem) (rows : List Pr) : Prop :=
  (rows = [] ∧ v = .l .nils ∧ M' = M) ∨ ∃ idO, (∀ j, idO ≤ j → M j = none) ∧ v = .l (.ms idO 0 rows.length) ∧ M' = M.set idO (.cells 32 (rows.map Pr.row) 0)
theorem OutP.nil (M : Mem) : OutP M (.l .nils) M [] := .inl ⟨rfl, rfl, rfl⟩
theorem OutP.base {M M' : Mem} {v : AV} {rows : List Pr} (h : OutP M v M' rows) : M.le M' := by
  rcases h with ⟨_, _, rfl⟩ | ⟨idO, hO, _, rfl⟩
  · exact Mem.le_refl _
  · exact le_new (Mem.le_refl _) hO
theorem le_none {M N : Mem} (h : M.le N) {n : Nat} (hn : ∀ j, n ≤ j → N j = none) : ∀ j, n ≤ j → M j = none := fun j hj => by
  cases hq : M j with
  | none => rfl
  | some b => have := h _ _ hq; rw [hn j hj] at this; cases this
theorem OutP.val {M M' : Mem} {v : AV} {rows : List Pr} (h : OutP M v M' rows) : ∃ s, v = .l s := by
  rcases h with ⟨_, rfl, _⟩ | ⟨idO, _, rfl, _⟩
  · exact ⟨_, rfl⟩
  · exact ⟨_, rfl⟩
theorem app_out {M M' N : Mem} {v : AV} {rows : List Pr} {p : Pr} {pb : Nat} (h : OutP M v M' rows) (hle : M'.le N) (hb : ∀ j, pb ≤ j → N j = none) (hlen : rows.length ≤ 1000001) {K : AV → Mem → Prop}
    (hc : ∀ v' N' M2, OutP M v' M2 (rows ++ [p]) → M2.le N' → (∀ k bk, N k = some bk → M' k = none → N' k = some bk) → K v' N') :
    @appI Go.Proofs.Tryd.prog (N.set pb (.cells 32 [p.row] 0)) 22 22 v (.l (.ms pb 0 1)) ⟨K⟩ := by
  have hMM := h.base
  rcases h with ⟨rfl, rfl, rfl⟩ | ⟨idO, hO, rfl, rfl⟩
  · refine app_nils _ _ _ _ 32 _ _ ti_22 rfl ti_32 (by kernel_rfl) (by decide) _ [p.row] ?_ ?_ ?_ ?_ ?_
    · simp -implicitDefEqProofs (maxSteps := 1000000) (disch := omega) only [↓xsP, ↓vc_seq, xsQ, xsT, xsR, xsD, ↓reduceIte, reduceCtorEq, eq_self, ne_eq, imp_self, forall_const, Nat.reduceEqDiff, Nat.reduceAdd, Nat.reduceSub, Nat.reduceMul, Nat.reduceLT, Nat.reduceLeDiff, Nat.reduceBEq, Nat.reduceDiv, Nat.reduceMod, Int.reduceToNat, Int.reduceNeg, Int.reduceAdd, Int.reduceSub, Int.reduceMul, Int.reduceEq, Int.reduceNe, Int.reduceLT, Int.reduceLE, Int.reduceGT, Int.reduceGE]
    · simp
    · simp
    · simp
    · intro _ idA hidA
      obtain ⟨hbA, hA⟩ := bnd_new hidA
      have hM := le_none hle hA
      refine hc _ _ _ (.inr ⟨idA, hM, rfl, rfl⟩) (le_seti (Mem.set_eq _ _ _) fun k bk hk hh => ?_) fun k bk hk _ => ?_
      · have h1 := hle _ _ hh
        have := lt_of_bnd hb h1
        have := lt_of_bnd hA h1
        rw [Mem.set_ne _ _ _ _ (by omega), Mem.set_ne _ _ _ _ (by omega)]
        exact h1
      · have := lt_of_bnd hb hk
        have := lt_of_bnd hA hk
        rw [Mem.set_ne _ _ _ _ (by omega), Mem.set_ne _ _ _ _ (by omega)]
        exact hk
  · have hNO : N idO = some (.cells 32 (rows.map Pr.row) 0) := hle _ _ (Mem.set_eq _ _ _)
    have hOb := lt_of_bnd hb hNO
    refine app_ms _ _ _ _ 32 _ _ ti_22 rfl ti_32 (by kernel_rfl) (by decide) idO rows.length _ (rows := rows.map Pr.row) (keep := 0) [p.row] ?_ ?_ ?_ (Nat.zero_le _) ?_ ?_ ?_
    · rw [Mem.set_ne _ _ _ _ (by omega)]; exact hNO
    · simp -implicitDefEqProofs (maxSteps := 1000000) (disch := omega) only [↓xsP, ↓vc_seq, xsQ, xsT, xsR, xsD, ↓reduceIte, reduceCtorEq, eq_self, ne_eq, imp_self, forall_const, Nat.reduceEqDiff, Nat.reduceAdd, Nat.reduceSub, Nat.reduceMul, Nat.reduceLT, Nat.reduceLeDiff, Nat.reduceBEq, Nat.reduceDiv, Nat.reduceMod, Int.reduceToNat, Int.reduceNeg, Int.reduceAdd, Int.reduceSub, Int.reduceMul, Int.reduceEq, Int.reduceNe, Int.reduceLT, Int.reduceLE, Int.reduceGT, Int.reduceGE]
    · simp
    · exact Nat.le_trans (Nat.mul_le_mul_right _ (show rows.length + [p.row].length ≤ 1000002 by simp; omega)) (by decide)
    · simp
      omega
    · intro idA hidA
      obtain ⟨hbA, hA⟩ := bnd_new hidA
      have hM := le_none hMM (le_none hle hA)
      have hOA := lt_of_bnd hA hNO
      refine hc _ _ _ (.inr ⟨idA, hM, by simp, rfl⟩) (le_seti ?_ fun k bk hk hh => ?_) fun k bk hk hn => ?_
      · rw [Mem.set_eq, List.take_of_length_le (by simp), List.map_append]
        rfl
      · have h0 := lt_of_bnd hO hh
        have h1 := hle _ _ (hMM _ _ hh)
        have := lt_of_bnd hb h1
        have := lt_of_bnd hA h1
        rw [Mem.set_ne _ _ _ _ (by omega), Mem.del_ne _ _ _ (by omega), Mem.set_ne _ _ _ _ (by omega)]
        exact h1
      · have hne : idO ≠ k := fun e => by subst e; rw [Mem.set_eq] at hn; cases hn
        have := lt_of_bnd hb hk
        have := lt_of_bnd hA hk
        rw [Mem.set_ne _ _ _ _ (by omega), Mem.del_ne _ _ _ hne, Mem.set_ne _ _ _ _ (by omega)]
        exact hk
theorem fin_out {M M' N : Mem} {v : AV} {rows : List Pr} {K : AV → Mem → Prop} (h : OutP M v M' rows) (hle : M'.le N) {M0 : Mem} (h0 : M0.le M) (hK : K (.l (.sl (rows.map Pr.row))) M0) : @finI Go.Proofs.Tryd.prog v N ⟨K⟩ := by
  refine finI_of ?_
  rcases h with ⟨rfl, rfl, rfl⟩ | ⟨idO, hO, rfl, rfl⟩
  · exact XFin.wk (XFin.le (fun k bk hk => hle _ _ (h0 _ _ hk)) hK)
  · refine XFin.frz idO (hle _ _ (Mem.set_eq _ _ _)) (XFin.le (fun k bk hk => ?_) (M' := M0) ?_)
    · have hk' := h0 _ _ hk
      have := lt_of_bnd hO hk'
      rw [Mem.set_ne _ _ _ _ (by omega)]
      exact hle _ _ (le_new (Mem.le_refl _) hO _ _ hk')
    · have e : frzA idO (rows.map Pr.row) (.l (.ms idO 0 rows.length)) = .l (.sl (rows.map Pr.row)) := by simp [frzA, frz1, frzL, List.take_of_length_le]
      rw [e]
      exact hK

theorem filter_take {q : Pr → Bool} {l : List Pr} {i : Nat} (hi : i < l.length) : (l.take (i + 1)).filter q = if q (l.getD i default) then (l.take i).filter q ++ [l.getD i default] else (l.take i).filter q := by
  rw [take_snoc l hi, List.filter_append]
  generalize l.getD i default = x
  cases h : q x
  · rw [List.filter_cons, h]; simp
  · rw [List.filter_cons, h]; simp
theorem filter_take_len (q : Pr → Bool) (l : List Pr) (i : Nat) : ((l.take i).filter q).length ≤ l.length := by
  have h1 := List.length_filter_le q (l.take i)
  rw [List.length_take] at h1
  omega

theorem without_spec (l : List Pr) (hl : l.length ≤ 1000001) (key : Int) (M : Mem) :
    XCalls Go.Proofs.Tryd.prog 26 [.l (.sl (l.map Pr.row)), .l (.int .i64 key)] M fun r M' => r = .l (.sl ((l.filter fun p => decide (p.key ≠ key)).map Pr.row)) ∧ M' = M := by
  refine xcalls_intro (rs := [.tmp 4]) Go.Proofs.Tryd.func26 rfl (by kernel_rfl) rfl rfl (by kernel_rfl) (by simp) ?_
  simp -implicitDefEqProofs (maxSteps := 1000000) (disch := omega) only [↓xsP, ↓vc_seq, xsQ, xsT, xsR, xsD, ↓reduceIte, reduceCtorEq, eq_self, ne_eq, imp_self, forall_const, Nat.reduceEqDiff, Nat.reduceAdd, Nat.reduceSub, Nat.reduceMul, Nat.reduceLT, Nat.reduceLeDiff, Nat.reduceBEq, Nat.reduceDiv, Nat.reduceMod, Int.reduceToNat, Int.reduceNeg, Int.reduceAdd, Int.reduceSub, Int.reduceMul, Int.reduceEq, Int.reduceNe, Int.reduceLT, Int.reduceLE, Int.reduceGT, Int.reduceGE]
  refine loopI_of (xloop (by kernel_rfl) (fun k fr M' => ∃ i : Nat, i ≤ l.length ∧ k = l.length - i ∧ fr 1 = .l (.int .i64 key) ∧ fr 8 = .l (.sl (l.map Pr.row)) ∧ fr 9 = .l (.int .i64 l.length) ∧ fr 10 = .l (.int .i64 i) ∧ OutP M (fr 5) M' ((l.take i).filter fun p => decide (p.key ≠ key))) l.length ?_ ?_)
  · refine ⟨0, Nat.zero_le _, rfl, by simp -implicitDefEqProofs (maxSteps := 1000000) (disch := omega) only [↓xsP, ↓vc_seq, xsQ, xsT, xsR, xsD, ↓reduceIte, reduceCtorEq, eq_self, ne_eq, imp_self, forall_const, Nat.reduceEqDiff, Nat.reduceAdd, Nat.reduceSub, Nat.reduceMul, Nat.reduceLT, Nat.reduceLeDiff, Nat.reduceBEq, Nat.reduceDiv, Nat.reduceMod, Int.reduceToNat, Int.reduceNeg, Int.reduceAdd, Int.reduceSub, Int.reduceMul, Int.reduceEq, Int.reduceNe, Int.reduceLT, Int.reduceLE, Int.reduceGT, Int.reduceGE], by simp -implicitDefEqProofs (maxSteps := 1000000) (disch := omega) only [↓xsP, ↓vc_seq, xsQ, xsT, xsR, xsD, ↓reduceIte, reduceCtorEq, eq_self, ne_eq, imp_self, forall_const, Nat.reduceEqDiff, Nat.reduceAdd, Nat.reduceSub, Nat.reduceMul, Nat.reduceLT, Nat.reduceLeDiff, Nat.reduceBEq, Nat.reduceDiv, Nat.reduceMod, Int.reduceToNat, Int.reduceNeg, Int.reduceAdd, Int.reduceSub, Int.reduceMul, Int.reduceEq, Int.reduceNe, Int.reduceLT, Int.reduceLE, Int.reduceGT, Int.reduceGE], by simp -implicitDefEqProofs (maxSteps := 1000000) (disch := omega) only [↓xsP, ↓vc_seq, xsQ, xsT, xsR, xsD, ↓reduceIte, reduceCtorEq, eq_self, ne_eq, imp_self, forall_const, Nat.reduceEqDiff, Nat.reduceAdd, Nat.reduceSub, Nat.reduceMul, Nat.reduceLT, Nat.reduceLeDiff, Nat.reduceBEq, Nat.reduceDiv, Nat.reduceMod, Int.reduceToNat, Int.reduceNeg, Int.reduceAdd, Int.reduceSub, Int.reduceMul, Int.reduceEq, Int.reduceNe, Int.reduceLT, Int.reduceLE, Int.reduceGT, Int.reduceGE], by simp -implicitDefEqProofs (maxSteps := 1000000) (disch := omega) only [↓xsP, ↓vc_seq, xsQ, xsT, xsR, xsD, ↓reduceIte, reduceCtorEq, eq_self, ne_eq, imp_self, forall_const, Nat.reduceEqDiff, Nat.reduceAdd, Nat.reduceSub, Nat.reduceMul, Nat.reduceLT, Nat.reduceLeDiff, Nat.reduceBEq, Nat.reduceDiv, Nat.reduceMod, Int.reduceToNat, Int.reduceNeg, Int.reduceAdd, Int.reduceSub, Int.reduceMul, Int.reduceEq, Int.reduceNe, Int.reduceLT, Int.reduceLE, Int.reduceGT, Int.reduceGE, Int.cast_ofNat_Int], ?_⟩
    simp -implicitDefEqProofs (maxSteps := 1000000) (disch := omega) only [↓xsP, ↓vc_seq, xsQ, xsT, xsR, xsD, ↓reduceIte, reduceCtorEq, eq_self, ne_eq, imp_self, forall_const, Nat.reduceEqDiff, Nat.reduceAdd, Nat.reduceSub, Nat.reduceMul, Nat.reduceLT, Nat.reduceLeDiff, Nat.reduceBEq, Nat.reduceDiv, Nat.reduceMod, Int.reduceToNat, Int.reduceNeg, Int.reduceAdd, Int.reduceSub, Int.reduceMul, Int.reduceEq, Int.reduceNe, Int.reduceLT, Int.reduceLE, Int.reduceGT, Int.reduceGE]
    exact OutP.nil M
  · rintro k fr M' ⟨i, hi, rfl, h1, h8, h9, h10, hO⟩
    obtain ⟨s5, h5⟩ := hO.val
    rw [h5] at hO
    simp -implicitDefEqProofs (maxSteps := 1000000) (disch := omega) only [↓xsP, ↓vc_seq, xsQ, xsT, xsR, xsD, ↓reduceIte, reduceCtorEq, eq_self, ne_eq, imp_self, forall_const, Nat.reduceEqDiff, Nat.reduceAdd, Nat.reduceSub, Nat.reduceMul, Nat.reduceLT, Nat.reduceLeDiff, Nat.reduceBEq, Nat.reduceDiv, Nat.reduceMod, Int.reduceToNat, Int.reduceNeg, Int.reduceAdd, Int.reduceSub, Int.reduceMul, Int.reduceEq, Int.reduceNe, Int.reduceLT, Int.reduceLE, Int.reduceGT, Int.reduceGE, h5, h1, h8, h9, h10]
    refine condI_prop (fun hlt => ?_) (fun hlt => ?_)
    · have hi' : i < l.length := by omega
      have hft := filter_take (q := fun p => decide (p.key ≠ key)) hi'
      have hfl := filter_take_len (fun p => decide (p.key ≠ key)) l i
      obtain ⟨q, hq⟩ : ∃ q, l.getD i default = q := ⟨_, rfl⟩
      rw [hq] at hft
      simp -implicitDefEqProofs (maxSteps := 1000000) (disch := omega) only [↓xsP, ↓vc_seq, xsQ, xsT, xsR, xsD, ↓reduceIte, reduceCtorEq, eq_self, ne_eq, imp_self, forall_const, Nat.reduceEqDiff, Nat.reduceAdd, Nat.reduceSub, Nat.reduceMul, Nat.reduceLT, Nat.reduceLeDiff, Nat.reduceBEq, Nat.reduceDiv, Nat.reduceMod, Int.reduceToNat, Int.reduceNeg, Int.reduceAdd, Int.reduceSub, Int.reduceMul, Int.reduceEq, Int.reduceNe, Int.reduceLT, Int.reduceLE, Int.reduceGT, Int.reduceGE, h5, h1, h8, h9, h10, hq]
      refine newI_intro fun p7 hp7 => ?_
      simp -implicitDefEqProofs (maxSteps := 1000000) (disch := omega) only [↓xsP, ↓vc_seq, xsQ, xsT, xsR, xsD, ↓reduceIte, reduceCtorEq, eq_self, ne_eq, imp_self, forall_const, Nat.reduceEqDiff, Nat.reduceAdd, Nat.reduceSub, Nat.reduceMul, Nat.reduceLT, Nat.reduceLeDiff, Nat.reduceBEq, Nat.reduceDiv, Nat.reduceMod, Int.reduceToNat, Int.reduceNeg, Int.reduceAdd, Int.reduceSub, Int.reduceMul, Int.reduceEq, Int.reduceNe, Int.reduceLT, Int.reduceLE, Int.reduceGT, Int.reduceGE, h5, h1, h8, h9, h10, hq]
      refine condI_prop (fun hk => ?_) (fun hk => ?_)
      · rw [if_pos (by simpa using hk)] at hft
        simp -implicitDefEqProofs (maxSteps := 1000000) (disch := omega) only [↓xsP, ↓vc_seq, xsQ, xsT, xsR, xsD, ↓reduceIte, reduceCtorEq, eq_self, ne_eq, imp_self, forall_const, Nat.reduceEqDiff, Nat.reduceAdd, Nat.reduceSub, Nat.reduceMul, Nat.reduceLT, Nat.reduceLeDiff, Nat.reduceBEq, Nat.reduceDiv, Nat.reduceMod, Int.reduceToNat, Int.reduceNeg, Int.reduceAdd, Int.reduceSub, Int.reduceMul, Int.reduceEq, Int.reduceNe, Int.reduceLT, Int.reduceLE, Int.reduceGT, Int.reduceGE, h5, h1, h8, h9, h10, hq]
        refine newI_intro fun pb hpb => ?_
        simp -implicitDefEqProofs (maxSteps := 1000000) (disch := omega) only [↓xsP, ↓vc_seq, xsQ, xsT, xsR, xsD, ↓reduceIte, reduceCtorEq, eq_self, ne_eq, imp_self, forall_const, Nat.reduceEqDiff, Nat.reduceAdd, Nat.reduceSub, Nat.reduceMul, Nat.reduceLT, Nat.reduceLeDiff, Nat.reduceBEq, Nat.reduceDiv, Nat.reduceMod, Int.reduceToNat, Int.reduceNeg, Int.reduceAdd, Int.reduceSub, Int.reduceMul, Int.reduceEq, Int.reduceNe, Int.reduceLT, Int.reduceLE, Int.reduceGT, Int.reduceGE, h5, h1, h8, h9, h10, hq]
        refine app_out (p := q) hO (le_new (Mem.le_refl _) hp7) hpb (by omega) fun v' N' M2 hO2 hle2 _ => ?_
        obtain ⟨s5', rfl⟩ := hO2.val
        simp -implicitDefEqProofs (maxSteps := 1000000) (disch := omega) only [↓xsP, ↓vc_seq, xsQ, xsT, xsR, xsD, ↓reduceIte, reduceCtorEq, eq_self, ne_eq, imp_self, forall_const, Nat.reduceEqDiff, Nat.reduceAdd, Nat.reduceSub, Nat.reduceMul, Nat.reduceLT, Nat.reduceLeDiff, Nat.reduceBEq, Nat.reduceDiv, Nat.reduceMod, Int.reduceToNat, Int.reduceNeg, Int.reduceAdd, Int.reduceSub, Int.reduceMul, Int.reduceEq, Int.reduceNe, Int.reduceLT, Int.reduceLE, Int.reduceGT, Int.reduceGE, h5, h1, h8, h9, h10, hq]
        exact ⟨l.length - (i + 1), M2, by omega, hle2, i + 1, by omega, rfl, rfl, by rw [hft]; exact hO2⟩
      · rw [if_neg (by simpa using hk)] at hft
        simp -implicitDefEqProofs (maxSteps := 1000000) (disch := omega) only [↓xsP, ↓vc_seq, xsQ, xsT, xsR, xsD, ↓reduceIte, reduceCtorEq, eq_self, ne_eq, imp_self, forall_const, Nat.reduceEqDiff, Nat.reduceAdd, Nat.reduceSub, Nat.reduceMul, Nat.reduceLT, Nat.reduceLeDiff, Nat.reduceBEq, Nat.reduceDiv, Nat.reduceMod, Int.reduceToNat, Int.reduceNeg, Int.reduceAdd, Int.reduceSub, Int.reduceMul, Int.reduceEq, Int.reduceNe, Int.reduceLT, Int.reduceLE, Int.reduceGT, Int.reduceGE, h5, h1, h8, h9, h10, hq]
        exact ⟨l.length - (i + 1), M', by omega, le_new (Mem.le_refl _) hp7, i + 1, by omega, rfl, rfl, by rw [hft]; exact hO⟩
    · have hi' : i = l.length := by omega
      subst hi'
      rw [List.take_length] at hO
      simp -implicitDefEqProofs (maxSteps := 1000000) (disch := omega) only [↓xsP, ↓vc_seq, xsQ, xsT, xsR, xsD, ↓reduceIte, reduceCtorEq, eq_self, ne_eq, imp_self, forall_const, Nat.reduceEqDiff, Nat.reduceAdd, Nat.reduceSub, Nat.reduceMul, Nat.reduceLT, Nat.reduceLeDiff, Nat.reduceBEq, Nat.reduceDiv, Nat.reduceMod, Int.reduceToNat, Int.reduceNeg, Int.reduceAdd, Int.reduceSub, Int.reduceMul, Int.reduceEq, Int.reduceNe, Int.reduceLT, Int.reduceLE, Int.reduceGT, Int.reduceGE, h5, h1, h8, h9, h10]
      exact fin_out hO (Mem.le_refl _) (Mem.le_refl _) ⟨rfl, rfl⟩

theorem rng_filter (l : List Pr) (lo hi : Int) : rng l lo hi = l.filter fun p => decide (lo ≤ p.key ∧ p.key ≤ hi) := by
  rw [rng, stays]
  refine List.filter_congr fun p _ => ?_
  by_cases h1 : p.key < lo
  · have h2 : ¬ (lo ≤ p.key ∧ p.key ≤ hi) := by omega
    simp [outside, h1, h2]
  · by_cases h3 : p.key > hi
    · have h2 : ¬ (lo ≤ p.key ∧ p.key ≤ hi) := by omega
      simp [outside, h1, h3, h2]
    · have h2 : lo ≤ p.key ∧ p.key ≤ hi := by omega
      simp [outside, h1, h3, h2]
theorem between_spec (l : List Pr) (hl : l.length ≤ 1000001) (lo hi : Int) (M : Mem) :
    XCalls Go.Proofs.Tryd.prog 27 [.l (.sl (l.map Pr.row)), .l (.int .i64 lo), .l (.int .i64 hi)] M fun r M' => r = .l (.sl ((rng l lo hi).map Pr.row)) ∧ M' = M := by
  rw [rng_filter]
  refine xcalls_intro (rs := [.tmp 6]) Go.Proofs.Tryd.func27 rfl (by kernel_rfl) rfl rfl (by kernel_rfl) (by simp) ?_
  simp -implicitDefEqProofs (maxSteps := 1000000) (disch := omega) only [↓xsP, ↓vc_seq, xsQ, xsT, xsR, xsD, ↓reduceIte, reduceCtorEq, eq_self, ne_eq, imp_self, forall_const, Nat.reduceEqDiff, Nat.reduceAdd, Nat.reduceSub, Nat.reduceMul, Nat.reduceLT, Nat.reduceLeDiff, Nat.reduceBEq, Nat.reduceDiv, Nat.reduceMod, Int.reduceToNat, Int.reduceNeg, Int.reduceAdd, Int.reduceSub, Int.reduceMul, Int.reduceEq, Int.reduceNe, Int.reduceLT, Int.reduceLE, Int.reduceGT, Int.reduceGE]
  refine loopI_of (xloop (by kernel_rfl) (fun k fr M' => ∃ i : Nat, i ≤ l.length ∧ k = l.length - i ∧ fr 1 = .l (.int .i64 lo) ∧ fr 2 = .l (.int .i64 hi) ∧ fr 10 = .l (.sl (l.map Pr.row)) ∧ fr 11 = .l (.int .i64 l.length) ∧ fr 12 = .l (.int .i64 i) ∧ OutP M (fr 7) M' ((l.take i).filter fun p => decide (lo ≤ p.key ∧ p.key ≤ hi))) l.length ?_ ?_)
  · refine ⟨0, Nat.zero_le _, rfl, by simp -implicitDefEqProofs (maxSteps := 1000000) (disch := omega) only [↓xsP, ↓vc_seq, xsQ, xsT, xsR, xsD, ↓reduceIte, reduceCtorEq, eq_self, ne_eq, imp_self, forall_const, Nat.reduceEqDiff, Nat.reduceAdd, Nat.reduceSub, Nat.reduceMul, Nat.reduceLT, Nat.reduceLeDiff, Nat.reduceBEq, Nat.reduceDiv, Nat.reduceMod, Int.reduceToNat, Int.reduceNeg, Int.reduceAdd, Int.reduceSub, Int.reduceMul, Int.reduceEq, Int.reduceNe, Int.reduceLT, Int.reduceLE, Int.reduceGT, Int.reduceGE], by simp -implicitDefEqProofs (maxSteps := 1000000) (disch := omega) only [↓xsP, ↓vc_seq, xsQ, xsT, xsR, xsD, ↓reduceIte, reduceCtorEq, eq_self, ne_eq, imp_self, forall_const, Nat.reduceEqDiff, Nat.reduceAdd, Nat.reduceSub, Nat.reduceMul, Nat.reduceLT, Nat.reduceLeDiff, Nat.reduceBEq, Nat.reduceDiv, Nat.reduceMod, Int.reduceToNat, Int.reduceNeg, Int.reduceAdd, Int.reduceSub, Int.reduceMul, Int.reduceEq, Int.reduceNe, Int.reduceLT, Int.reduceLE, Int.reduceGT, Int.reduceGE], by simp -implicitDefEqProofs (maxSteps := 1000000) (disch := omega) only [↓xsP, ↓vc_seq, xsQ, xsT, xsR, xsD, ↓reduceIte, reduceCtorEq, eq_self, ne_eq, imp_self, forall_const, Nat.reduceEqDiff, Nat.reduceAdd, Nat.reduceSub, Nat.reduceMul, Nat.reduceLT, Nat.reduceLeDiff, Nat.reduceBEq, Nat.reduceDiv, Nat.reduceMod, Int.reduceToNat, Int.reduceNeg, Int.reduceAdd, Int.reduceSub, Int.reduceMul, Int.reduceEq, Int.reduceNe, Int.reduceLT, Int.reduceLE, Int.reduceGT, Int.reduceGE], by simp -implicitDefEqProofs (maxSteps := 1000000) (disch := omega) only [↓xsP, ↓vc_seq, xsQ, xsT, xsR, xsD, ↓reduceIte, reduceCtorEq, eq_self, ne_eq, imp_self, forall_const, Nat.reduceEqDiff, Nat.reduceAdd, Nat.reduceSub, Nat.reduceMul, Nat.reduceLT, Nat.reduceLeDiff, Nat.reduceBEq, Nat.reduceDiv, Nat.reduceMod, Int.reduceToNat, Int.reduceNeg, Int.reduceAdd, Int.reduceSub, Int.reduceMul, Int.reduceEq, Int.reduceNe, Int.reduceLT, Int.reduceLE, Int.reduceGT, Int.reduceGE], by simp -implicitDefEqProofs (maxSteps := 1000000) (disch := omega) only [↓xsP, ↓vc_seq, xsQ, xsT, xsR, xsD, ↓reduceIte, reduceCtorEq, eq_self, ne_eq, imp_self, forall_const, Nat.reduceEqDiff, Nat.reduceAdd, Nat.reduceSub, Nat.reduceMul, Nat.reduceLT, Nat.reduceLeDiff, Nat.reduceBEq, Nat.reduceDiv, Nat.reduceMod, Int.reduceToNat, Int.reduceNeg, Int.reduceAdd, Int.reduceSub, Int.reduceMul, Int.reduceEq, Int.reduceNe, Int.reduceLT, Int.reduceLE, Int.reduceGT, Int.reduceGE, Int.cast_ofNat_Int], ?_⟩
    simp -implicitDefEqProofs (maxSteps := 1000000) (disch := omega) only [↓xsP, ↓vc_seq, xsQ, xsT, xsR, xsD, ↓reduceIte, reduceCtorEq, eq_self, ne_eq, imp_self, forall_const, Nat.reduceEqDiff, Nat.reduceAdd, Nat.reduceSub, Nat.reduceMul, Nat.reduceLT, Nat.reduceLeDiff, Nat.reduceBEq, Nat.reduceDiv, Nat.reduceMod, Int.reduceToNat, Int.reduceNeg, Int.reduceAdd, Int.reduceSub, Int.reduceMul, Int.reduceEq, Int.reduceNe, Int.reduceLT, Int.reduceLE, Int.reduceGT, Int.reduceGE]
    exact OutP.nil M
  · rintro k fr M' ⟨i, hi2, rfl, h1, h2, h8, h9, h10, hO⟩
    obtain ⟨s7, h7⟩ := hO.val
    rw [h7] at hO
    simp -implicitDefEqProofs (maxSteps := 1000000) (disch := omega) only [↓xsP, ↓vc_seq, xsQ, xsT, xsR, xsD, ↓reduceIte, reduceCtorEq, eq_self, ne_eq, imp_self, forall_const, Nat.reduceEqDiff, Nat.reduceAdd, Nat.reduceSub, Nat.reduceMul, Nat.reduceLT, Nat.reduceLeDiff, Nat.reduceBEq, Nat.reduceDiv, Nat.reduceMod, Int.reduceToNat, Int.reduceNeg, Int.reduceAdd, Int.reduceSub, Int.reduceMul, Int.reduceEq, Int.reduceNe, Int.reduceLT, Int.reduceLE, Int.reduceGT, Int.reduceGE, h7, h1, h2, h8, h9, h10]
    refine condI_prop (fun hlt => ?_) (fun hlt => ?_)
    · have hi' : i < l.length := by omega
      have hft := filter_take (q := fun p => decide (lo ≤ p.key ∧ p.key ≤ hi)) hi'
      have hfl := filter_take_len (fun p => decide (lo ≤ p.key ∧ p.key ≤ hi)) l i
      obtain ⟨q, hq⟩ : ∃ q, l.getD i default = q := ⟨_, rfl⟩
      rw [hq] at hft
      simp -implicitDefEqProofs (maxSteps := 1000000) (disch := omega) only [↓xsP, ↓vc_seq, xsQ, xsT, xsR, xsD, ↓reduceIte, reduceCtorEq, eq_self, ne_eq, imp_self, forall_const, Nat.reduceEqDiff, Nat.reduceAdd, Nat.reduceSub, Nat.reduceMul, Nat.reduceLT, Nat.reduceLeDiff, Nat.reduceBEq, Nat.reduceDiv, Nat.reduceMod, Int.reduceToNat, Int.reduceNeg, Int.reduceAdd, Int.reduceSub, Int.reduceMul, Int.reduceEq, Int.reduceNe, Int.reduceLT, Int.reduceLE, Int.reduceGT, Int.reduceGE, h7, h1, h2, h8, h9, h10, hq]
      refine newI_intro fun p9 hp9 => ?_
      simp -implicitDefEqProofs (maxSteps := 1000000) (disch := omega) only [↓xsP, ↓vc_seq, xsQ, xsT, xsR, xsD, ↓reduceIte, reduceCtorEq, eq_self, ne_eq, imp_self, forall_const, Nat.reduceEqDiff, Nat.reduceAdd, Nat.reduceSub, Nat.reduceMul, Nat.reduceLT, Nat.reduceLeDiff, Nat.reduceBEq, Nat.reduceDiv, Nat.reduceMod, Int.reduceToNat, Int.reduceNeg, Int.reduceAdd, Int.reduceSub, Int.reduceMul, Int.reduceEq, Int.reduceNe, Int.reduceLT, Int.reduceLE, Int.reduceGT, Int.reduceGE, h7, h1, h2, h8, h9, h10, hq]
      have hno : ¬ (lo ≤ q.key ∧ q.key ≤ hi) → OutP M (.l s7) M' ((l.take (i + 1)).filter fun p => decide (lo ≤ p.key ∧ p.key ≤ hi)) := fun hn => by
        rw [hft, if_neg (by simpa using hn)]
        exact hO
      refine gI_prop (fun hk => ?_) (fun hk => ?_)
      · simp -implicitDefEqProofs (maxSteps := 1000000) (disch := omega) only [↓xsP, ↓vc_seq, xsQ, xsT, xsR, xsD, ↓reduceIte, reduceCtorEq, eq_self, ne_eq, imp_self, forall_const, Nat.reduceEqDiff, Nat.reduceAdd, Nat.reduceSub, Nat.reduceMul, Nat.reduceLT, Nat.reduceLeDiff, Nat.reduceBEq, Nat.reduceDiv, Nat.reduceMod, Int.reduceToNat, Int.reduceNeg, Int.reduceAdd, Int.reduceSub, Int.reduceMul, Int.reduceEq, Int.reduceNe, Int.reduceLT, Int.reduceLE, Int.reduceGT, Int.reduceGE, h7, h1, h2, h8, h9, h10, hq, hk]
        refine condI_prop (fun hk2 => ?_) (fun hk2 => ?_)
        · rw [if_pos (by simp; omega)] at hft
          simp -implicitDefEqProofs (maxSteps := 1000000) (disch := omega) only [↓xsP, ↓vc_seq, xsQ, xsT, xsR, xsD, ↓reduceIte, reduceCtorEq, eq_self, ne_eq, imp_self, forall_const, Nat.reduceEqDiff, Nat.reduceAdd, Nat.reduceSub, Nat.reduceMul, Nat.reduceLT, Nat.reduceLeDiff, Nat.reduceBEq, Nat.reduceDiv, Nat.reduceMod, Int.reduceToNat, Int.reduceNeg, Int.reduceAdd, Int.reduceSub, Int.reduceMul, Int.reduceEq, Int.reduceNe, Int.reduceLT, Int.reduceLE, Int.reduceGT, Int.reduceGE, h7, h1, h2, h8, h9, h10, hq]
          refine newI_intro fun pb hpb => ?_
          simp -implicitDefEqProofs (maxSteps := 1000000) (disch := omega) only [↓xsP, ↓vc_seq, xsQ, xsT, xsR, xsD, ↓reduceIte, reduceCtorEq, eq_self, ne_eq, imp_self, forall_const, Nat.reduceEqDiff, Nat.reduceAdd, Nat.reduceSub, Nat.reduceMul, Nat.reduceLT, Nat.reduceLeDiff, Nat.reduceBEq, Nat.reduceDiv, Nat.reduceMod, Int.reduceToNat, Int.reduceNeg, Int.reduceAdd, Int.reduceSub, Int.reduceMul, Int.reduceEq, Int.reduceNe, Int.reduceLT, Int.reduceLE, Int.reduceGT, Int.reduceGE, h7, h1, h2, h8, h9, h10, hq]
          refine app_out (p := q) hO (le_new (Mem.le_refl _) hp9) hpb (by omega) fun v' N' M2 hO2 hle2 _ => ?_
          obtain ⟨s5', rfl⟩ := hO2.val
          simp -implicitDefEqProofs (maxSteps := 1000000) (disch := omega) only [↓xsP, ↓vc_seq, xsQ, xsT, xsR, xsD, ↓reduceIte, reduceCtorEq, eq_self, ne_eq, imp_self, forall_const, Nat.reduceEqDiff, Nat.reduceAdd, Nat.reduceSub, Nat.reduceMul, Nat.reduceLT, Nat.reduceLeDiff, Nat.reduceBEq, Nat.reduceDiv, Nat.reduceMod, Int.reduceToNat, Int.reduceNeg, Int.reduceAdd, Int.reduceSub, Int.reduceMul, Int.reduceEq, Int.reduceNe, Int.reduceLT, Int.reduceLE, Int.reduceGT, Int.reduceGE, h7, h1, h2, h8, h9, h10, hq]
          exact ⟨l.length - (i + 1), M2, by omega, hle2, i + 1, by omega, rfl, rfl, by rw [hft]; exact hO2⟩
        · simp -implicitDefEqProofs (maxSteps := 1000000) (disch := omega) only [↓xsP, ↓vc_seq, xsQ, xsT, xsR, xsD, ↓reduceIte, reduceCtorEq, eq_self, ne_eq, imp_self, forall_const, Nat.reduceEqDiff, Nat.reduceAdd, Nat.reduceSub, Nat.reduceMul, Nat.reduceLT, Nat.reduceLeDiff, Nat.reduceBEq, Nat.reduceDiv, Nat.reduceMod, Int.reduceToNat, Int.reduceNeg, Int.reduceAdd, Int.reduceSub, Int.reduceMul, Int.reduceEq, Int.reduceNe, Int.reduceLT, Int.reduceLE, Int.reduceGT, Int.reduceGE, h7, h1, h2, h8, h9, h10, hq]
          exact ⟨l.length - (i + 1), M', by omega, le_new (Mem.le_refl _) hp9, i + 1, by omega, rfl, rfl, hno (by omega)⟩
      · simp -implicitDefEqProofs (maxSteps := 1000000) (disch := omega) only [↓xsP, ↓vc_seq, xsQ, xsT, xsR, xsD, ↓reduceIte, reduceCtorEq, eq_self, ne_eq, imp_self, forall_const, Nat.reduceEqDiff, Nat.reduceAdd, Nat.reduceSub, Nat.reduceMul, Nat.reduceLT, Nat.reduceLeDiff, Nat.reduceBEq, Nat.reduceDiv, Nat.reduceMod, Int.reduceToNat, Int.reduceNeg, Int.reduceAdd, Int.reduceSub, Int.reduceMul, Int.reduceEq, Int.reduceNe, Int.reduceLT, Int.reduceLE, Int.reduceGT, Int.reduceGE, h7, h1, h2, h8, h9, h10, hq, hk]
        exact ⟨l.length - (i + 1), M', by omega, le_new (Mem.le_refl _) hp9, i + 1, by omega, rfl, rfl, hno (by omega)⟩
    · have hi' : i = l.length := by omega
      subst hi'
      rw [List.take_length] at hO
      simp -implicitDefEqProofs (maxSteps := 1000000) (disch := omega) only [↓xsP, ↓vc_seq, xsQ, xsT, xsR, xsD, ↓reduceIte, reduceCtorEq, eq_self, ne_eq, imp_self, forall_const, Nat.reduceEqDiff, Nat.reduceAdd, Nat.reduceSub, Nat.reduceMul, Nat.reduceLT, Nat.reduceLeDiff, Nat.reduceBEq, Nat.reduceDiv, Nat.reduceMod, Int.reduceToNat, Int.reduceNeg, Int.reduceAdd, Int.reduceSub, Int.reduceMul, Int.reduceEq, Int.reduceNe, Int.reduceLT, Int.reduceLE, Int.reduceGT, Int.reduceGE, h7, h1, h2, h8, h9, h10]
      exact fin_out hO (Mem.le_refl _) (Mem.le_refl _) ⟨rfl, rfl⟩

theorem findR_spec (l : List Pr) (hl : l.length ≤ 140737488355328) (key : Int) (M : Mem) :
    XCalls Go.Proofs.Tryd.prog 24 [.l (.sl (l.map Pr.row)), .l (.int .i64 key)] M fun r M' => r = .l (.int .i64 (place l key)) ∧ M' = M := by
  refine xcalls_intro (rs := [.tmp 4]) Go.Proofs.Tryd.func24 rfl (by kernel_rfl) rfl rfl (by kernel_rfl) (by simp) ?_
  have hstep : ∀ i, i < l.length → l.drop i = l.getD i default :: l.drop (i + 1) := fun i hi => drop_cons hi
  simp -implicitDefEqProofs (maxSteps := 1000000) (disch := omega) only [↓xsP, ↓vc_seq, xsQ, xsT, xsR, xsD, ↓reduceIte, reduceCtorEq, eq_self, ne_eq, imp_self, forall_const, Nat.reduceEqDiff, Nat.reduceAdd, Nat.reduceSub, Nat.reduceMul, Nat.reduceLT, Nat.reduceLeDiff, Nat.reduceBEq, Nat.reduceDiv, Nat.reduceMod, Int.reduceToNat, Int.reduceNeg, Int.reduceAdd, Int.reduceSub, Int.reduceMul, Int.reduceEq, Int.reduceNe, Int.reduceLT, Int.reduceLE, Int.reduceGT, Int.reduceGE]
  refine loopI_of (xloop (by kernel_rfl) (fun k fr M' => ∃ i : Nat, i ≤ l.length ∧ k = l.length - i ∧ fr 1 = .l (.int .i64 key) ∧ fr 7 = .l (.sl (l.map Pr.row)) ∧ fr 8 = .l (.int .i64 l.length) ∧ fr 9 = .l (.int .i64 i) ∧ M' = M ∧ place l key = pidx (fun p => decide (p.key = key)) (l.drop i) i) l.length ?_ ?_)
  · exact ⟨0, Nat.zero_le _, rfl, by simp -implicitDefEqProofs (maxSteps := 1000000) (disch := omega) only [↓xsP, ↓vc_seq, xsQ, xsT, xsR, xsD, ↓reduceIte, reduceCtorEq, eq_self, ne_eq, imp_self, forall_const, Nat.reduceEqDiff, Nat.reduceAdd, Nat.reduceSub, Nat.reduceMul, Nat.reduceLT, Nat.reduceLeDiff, Nat.reduceBEq, Nat.reduceDiv, Nat.reduceMod, Int.reduceToNat, Int.reduceNeg, Int.reduceAdd, Int.reduceSub, Int.reduceMul, Int.reduceEq, Int.reduceNe, Int.reduceLT, Int.reduceLE, Int.reduceGT, Int.reduceGE], by simp -implicitDefEqProofs (maxSteps := 1000000) (disch := omega) only [↓xsP, ↓vc_seq, xsQ, xsT, xsR, xsD, ↓reduceIte, reduceCtorEq, eq_self, ne_eq, imp_self, forall_const, Nat.reduceEqDiff, Nat.reduceAdd, Nat.reduceSub, Nat.reduceMul, Nat.reduceLT, Nat.reduceLeDiff, Nat.reduceBEq, Nat.reduceDiv, Nat.reduceMod, Int.reduceToNat, Int.reduceNeg, Int.reduceAdd, Int.reduceSub, Int.reduceMul, Int.reduceEq, Int.reduceNe, Int.reduceLT, Int.reduceLE, Int.reduceGT, Int.reduceGE], by simp -implicitDefEqProofs (maxSteps := 1000000) (disch := omega) only [↓xsP, ↓vc_seq, xsQ, xsT, xsR, xsD, ↓reduceIte, reduceCtorEq, eq_self, ne_eq, imp_self, forall_const, Nat.reduceEqDiff, Nat.reduceAdd, Nat.reduceSub, Nat.reduceMul, Nat.reduceLT, Nat.reduceLeDiff, Nat.reduceBEq, Nat.reduceDiv, Nat.reduceMod, Int.reduceToNat, Int.reduceNeg, Int.reduceAdd, Int.reduceSub, Int.reduceMul, Int.reduceEq, Int.reduceNe, Int.reduceLT, Int.reduceLE, Int.reduceGT, Int.reduceGE], by simp -implicitDefEqProofs (maxSteps := 1000000) (disch := omega) only [↓xsP, ↓vc_seq, xsQ, xsT, xsR, xsD, ↓reduceIte, reduceCtorEq, eq_self, ne_eq, imp_self, forall_const, Nat.reduceEqDiff, Nat.reduceAdd, Nat.reduceSub, Nat.reduceMul, Nat.reduceLT, Nat.reduceLeDiff, Nat.reduceBEq, Nat.reduceDiv, Nat.reduceMod, Int.reduceToNat, Int.reduceNeg, Int.reduceAdd, Int.reduceSub, Int.reduceMul, Int.reduceEq, Int.reduceNe, Int.reduceLT, Int.reduceLE, Int.reduceGT, Int.reduceGE, Int.cast_ofNat_Int], rfl, rfl⟩
  · rintro k fr M' ⟨i, hi, rfl, h1, h7, h8, h9, rfl, hinv⟩
    simp -implicitDefEqProofs (maxSteps := 1000000) (disch := omega) only [↓xsP, ↓vc_seq, xsQ, xsT, xsR, xsD, ↓reduceIte, reduceCtorEq, eq_self, ne_eq, imp_self, forall_const, Nat.reduceEqDiff, Nat.reduceAdd, Nat.reduceSub, Nat.reduceMul, Nat.reduceLT, Nat.reduceLeDiff, Nat.reduceBEq, Nat.reduceDiv, Nat.reduceMod, Int.reduceToNat, Int.reduceNeg, Int.reduceAdd, Int.reduceSub, Int.reduceMul, Int.reduceEq, Int.reduceNe, Int.reduceLT, Int.reduceLE, Int.reduceGT, Int.reduceGE, h1, h7, h8, h9]
    refine condI_prop (fun hlt => ?_) (fun hlt => ?_)
    · rw [hstep i (by omega), pidx] at hinv
      obtain ⟨q, hq⟩ : ∃ q, l.getD i default = q := ⟨_, rfl⟩
      rw [hq] at hinv
      simp -implicitDefEqProofs (maxSteps := 1000000) (disch := omega) only [↓xsP, ↓vc_seq, xsQ, xsT, xsR, xsD, ↓reduceIte, reduceCtorEq, eq_self, ne_eq, imp_self, forall_const, Nat.reduceEqDiff, Nat.reduceAdd, Nat.reduceSub, Nat.reduceMul, Nat.reduceLT, Nat.reduceLeDiff, Nat.reduceBEq, Nat.reduceDiv, Nat.reduceMod, Int.reduceToNat, Int.reduceNeg, Int.reduceAdd, Int.reduceSub, Int.reduceMul, Int.reduceEq, Int.reduceNe, Int.reduceLT, Int.reduceLE, Int.reduceGT, Int.reduceGE, h1, h7, h8, h9, hq]
      refine newI_intro fun p6 hp6 => ?_
      simp -implicitDefEqProofs (maxSteps := 1000000) (disch := omega) only [↓xsP, ↓vc_seq, xsQ, xsT, xsR, xsD, ↓reduceIte, reduceCtorEq, eq_self, ne_eq, imp_self, forall_const, Nat.reduceEqDiff, Nat.reduceAdd, Nat.reduceSub, Nat.reduceMul, Nat.reduceLT, Nat.reduceLeDiff, Nat.reduceBEq, Nat.reduceDiv, Nat.reduceMod, Int.reduceToNat, Int.reduceNeg, Int.reduceAdd, Int.reduceSub, Int.reduceMul, Int.reduceEq, Int.reduceNe, Int.reduceLT, Int.reduceLE, Int.reduceGT, Int.reduceGE, h1, h7, h8, h9, hq]
      refine condI_prop (fun hk => ?_) (fun hk => ?_)
      · rw [if_pos (by simpa using hk)] at hinv
        simp -implicitDefEqProofs (maxSteps := 1000000) (disch := omega) only [↓xsP, ↓vc_seq, xsQ, xsT, xsR, xsD, ↓reduceIte, reduceCtorEq, eq_self, ne_eq, imp_self, forall_const, Nat.reduceEqDiff, Nat.reduceAdd, Nat.reduceSub, Nat.reduceMul, Nat.reduceLT, Nat.reduceLeDiff, Nat.reduceBEq, Nat.reduceDiv, Nat.reduceMod, Int.reduceToNat, Int.reduceNeg, Int.reduceAdd, Int.reduceSub, Int.reduceMul, Int.reduceEq, Int.reduceNe, Int.reduceLT, Int.reduceLE, Int.reduceGT, Int.reduceGE, h1, h7, h8, h9, hq]
        exact fin_ok (le_new (Mem.le_refl _) hp6) ⟨by rw [hinv], rfl⟩
      · rw [if_neg (by simpa using hk)] at hinv
        simp -implicitDefEqProofs (maxSteps := 1000000) (disch := omega) only [↓xsP, ↓vc_seq, xsQ, xsT, xsR, xsD, ↓reduceIte, reduceCtorEq, eq_self, ne_eq, imp_self, forall_const, Nat.reduceEqDiff, Nat.reduceAdd, Nat.reduceSub, Nat.reduceMul, Nat.reduceLT, Nat.reduceLeDiff, Nat.reduceBEq, Nat.reduceDiv, Nat.reduceMod, Int.reduceToNat, Int.reduceNeg, Int.reduceAdd, Int.reduceSub, Int.reduceMul, Int.reduceEq, Int.reduceNe, Int.reduceLT, Int.reduceLE, Int.reduceGT, Int.reduceGE, h1, h7, h8, h9, hq]
        exact ⟨l.length - (i + 1), M', by omega, le_new (Mem.le_refl _) hp6, i + 1, by omega, rfl, rfl, rfl, hinv⟩
    · have hil : i = l.length := by omega
      subst hil
      rw [List.drop_length, pidx] at hinv
      simp -implicitDefEqProofs (maxSteps := 1000000) (disch := omega) only [↓xsP, ↓vc_seq, xsQ, xsT, xsR, xsD, ↓reduceIte, reduceCtorEq, eq_self, ne_eq, imp_self, forall_const, Nat.reduceEqDiff, Nat.reduceAdd, Nat.reduceSub, Nat.reduceMul, Nat.reduceLT, Nat.reduceLeDiff, Nat.reduceBEq, Nat.reduceDiv, Nat.reduceMod, Int.reduceToNat, Int.reduceNeg, Int.reduceAdd, Int.reduceSub, Int.reduceMul, Int.reduceEq, Int.reduceNe, Int.reduceLT, Int.reduceLE, Int.reduceGT, Int.reduceGE, h1, h7, h8, h9]
      exact fin_ok (Mem.le_refl _) ⟨by rw [hinv], rfl⟩

/-- With, step by step. -/
def wst (p : Pr) (s : List Pr × Bool) (x : Pr) : List Pr × Bool :=
  let s1 := if s.2 = false ∧ x.key ≥ p.key then (s.1 ++ [p], true) else s
  (if x.key ≠ p.key then s1.1 ++ [x] else s1.1, s1.2)
def wrun (p : Pr) (l : List Pr) : List Pr × Bool := l.foldl (wst p) ([], false)
def withR (l : List Pr) (p : Pr) : List Pr := if (wrun p l).2 then (wrun p l).1 else (wrun p l).1 ++ [p]
theorem wrun_take {p : Pr} {l : List Pr} {i : Nat} (hi : i < l.length) : wrun p (l.take (i + 1)) = wst p (wrun p (l.take i)) (l.getD i default) := by
  rw [take_snoc l hi, wrun, List.foldl_append]
  rfl
theorem wst_len (p : Pr) (s : List Pr × Bool) (x : Pr) : (wst p s x).1.length + (!(wst p s x).2).toNat ≤ s.1.length + (!s.2).toNat + 1 := by
  obtain ⟨o, d⟩ := s
  cases d <;> simp only [wst] <;> (repeat' split) <;> simp_all
theorem wrun_len (p : Pr) (l : List Pr) : (wrun p l).1.length + (!(wrun p l).2).toNat ≤ l.length + 1 := by
  have key : ∀ (l : List Pr) (s : List Pr × Bool), (l.foldl (wst p) s).1.length + (!(l.foldl (wst p) s).2).toNat ≤ s.1.length + (!s.2).toNat + l.length := by
    intro l
    induction l with
    | nil => intro s; simp
    | cons x r ih =>
      intro s
      have h1 := ih (wst p s x)
      have h2 := wst_len p s x
      simp only [List.foldl_cons, List.length_cons]
      omega
  have := key l ([], false)
  simp only [List.length_nil, Bool.not_false, Bool.toNat_true] at this
  rw [wrun]
  omega
theorem withR_spec (l : List Pr) (hl : l.length ≤ 1000000) (p : Pr) (M : Mem) :
    XCalls Go.Proofs.Tryd.prog 25 [.l (.sl (l.map Pr.row)), .agg p.row] M fun r M' => r = .l (.sl ((withR l p).map Pr.row)) ∧ M' = M := by
  refine xcalls_intro (rs := [.tmp 4]) Go.Proofs.Tryd.func25 rfl (by kernel_rfl) rfl rfl (by kernel_rfl) (by simp) ?_
  simp -implicitDefEqProofs (maxSteps := 1000000) (disch := omega) only [↓xsP, ↓vc_seq, xsQ, xsT, xsR, xsD, ↓reduceIte, reduceCtorEq, eq_self, ne_eq, imp_self, forall_const, Nat.reduceEqDiff, Nat.reduceAdd, Nat.reduceSub, Nat.reduceMul, Nat.reduceLT, Nat.reduceLeDiff, Nat.reduceBEq, Nat.reduceDiv, Nat.reduceMod, Int.reduceToNat, Int.reduceNeg, Int.reduceAdd, Int.reduceSub, Int.reduceMul, Int.reduceEq, Int.reduceNe, Int.reduceLT, Int.reduceLE, Int.reduceGT, Int.reduceGE]
  refine newI_intro fun p3 hp3 => ?_
  have hM3 := Mem.set_eq M p3 (.cells 32 [p.row] 0)
  have hMN := le_new (b := .cells 32 [p.row] 0) (Mem.le_refl M) hp3
  simp only [Pr.row] at hM3 hMN
  simp -implicitDefEqProofs (maxSteps := 1000000) (disch := omega) only [↓xsP, ↓vc_seq, xsQ, xsT, xsR, xsD, ↓reduceIte, reduceCtorEq, eq_self, ne_eq, imp_self, forall_const, Nat.reduceEqDiff, Nat.reduceAdd, Nat.reduceSub, Nat.reduceMul, Nat.reduceLT, Nat.reduceLeDiff, Nat.reduceBEq, Nat.reduceDiv, Nat.reduceMod, Int.reduceToNat, Int.reduceNeg, Int.reduceAdd, Int.reduceSub, Int.reduceMul, Int.reduceEq, Int.reduceNe, Int.reduceLT, Int.reduceLE, Int.reduceGT, Int.reduceGE]
  generalize M.set p3 _ = N at hM3 hMN ⊢
  refine loopI_of (xloop (by kernel_rfl) (fun k fr M' => ∃ i : Nat, i ≤ l.length ∧ k = l.length - i ∧ fr 3 = .l (.ptr p3 0 0) ∧ fr 6 = .l (.bool (wrun p (l.take i)).2) ∧ fr 9 = .l (.sl (l.map Pr.row)) ∧ fr 10 = .l (.int .i64 l.length) ∧ fr 11 = .l (.int .i64 i) ∧ OutP N (fr 5) M' (wrun p (l.take i)).1) l.length ?_ ?_)
  · refine ⟨0, Nat.zero_le _, rfl, by simp -implicitDefEqProofs (maxSteps := 1000000) (disch := omega) only [↓xsP, ↓vc_seq, xsQ, xsT, xsR, xsD, ↓reduceIte, reduceCtorEq, eq_self, ne_eq, imp_self, forall_const, Nat.reduceEqDiff, Nat.reduceAdd, Nat.reduceSub, Nat.reduceMul, Nat.reduceLT, Nat.reduceLeDiff, Nat.reduceBEq, Nat.reduceDiv, Nat.reduceMod, Int.reduceToNat, Int.reduceNeg, Int.reduceAdd, Int.reduceSub, Int.reduceMul, Int.reduceEq, Int.reduceNe, Int.reduceLT, Int.reduceLE, Int.reduceGT, Int.reduceGE], by simp -implicitDefEqProofs (maxSteps := 1000000) (disch := omega) only [↓xsP, ↓vc_seq, xsQ, xsT, xsR, xsD, ↓reduceIte, reduceCtorEq, eq_self, ne_eq, imp_self, forall_const, Nat.reduceEqDiff, Nat.reduceAdd, Nat.reduceSub, Nat.reduceMul, Nat.reduceLT, Nat.reduceLeDiff, Nat.reduceBEq, Nat.reduceDiv, Nat.reduceMod, Int.reduceToNat, Int.reduceNeg, Int.reduceAdd, Int.reduceSub, Int.reduceMul, Int.reduceEq, Int.reduceNe, Int.reduceLT, Int.reduceLE, Int.reduceGT, Int.reduceGE]; rfl, by simp -implicitDefEqProofs (maxSteps := 1000000) (disch := omega) only [↓xsP, ↓vc_seq, xsQ, xsT, xsR, xsD, ↓reduceIte, reduceCtorEq, eq_self, ne_eq, imp_self, forall_const, Nat.reduceEqDiff, Nat.reduceAdd, Nat.reduceSub, Nat.reduceMul, Nat.reduceLT, Nat.reduceLeDiff, Nat.reduceBEq, Nat.reduceDiv, Nat.reduceMod, Int.reduceToNat, Int.reduceNeg, Int.reduceAdd, Int.reduceSub, Int.reduceMul, Int.reduceEq, Int.reduceNe, Int.reduceLT, Int.reduceLE, Int.reduceGT, Int.reduceGE], by simp -implicitDefEqProofs (maxSteps := 1000000) (disch := omega) only [↓xsP, ↓vc_seq, xsQ, xsT, xsR, xsD, ↓reduceIte, reduceCtorEq, eq_self, ne_eq, imp_self, forall_const, Nat.reduceEqDiff, Nat.reduceAdd, Nat.reduceSub, Nat.reduceMul, Nat.reduceLT, Nat.reduceLeDiff, Nat.reduceBEq, Nat.reduceDiv, Nat.reduceMod, Int.reduceToNat, Int.reduceNeg, Int.reduceAdd, Int.reduceSub, Int.reduceMul, Int.reduceEq, Int.reduceNe, Int.reduceLT, Int.reduceLE, Int.reduceGT, Int.reduceGE], by simp -implicitDefEqProofs (maxSteps := 1000000) (disch := omega) only [↓xsP, ↓vc_seq, xsQ, xsT, xsR, xsD, ↓reduceIte, reduceCtorEq, eq_self, ne_eq, imp_self, forall_const, Nat.reduceEqDiff, Nat.reduceAdd, Nat.reduceSub, Nat.reduceMul, Nat.reduceLT, Nat.reduceLeDiff, Nat.reduceBEq, Nat.reduceDiv, Nat.reduceMod, Int.reduceToNat, Int.reduceNeg, Int.reduceAdd, Int.reduceSub, Int.reduceMul, Int.reduceEq, Int.reduceNe, Int.reduceLT, Int.reduceLE, Int.reduceGT, Int.reduceGE, Int.cast_ofNat_Int], ?_⟩
    simp -implicitDefEqProofs (maxSteps := 1000000) (disch := omega) only [↓xsP, ↓vc_seq, xsQ, xsT, xsR, xsD, ↓reduceIte, reduceCtorEq, eq_self, ne_eq, imp_self, forall_const, Nat.reduceEqDiff, Nat.reduceAdd, Nat.reduceSub, Nat.reduceMul, Nat.reduceLT, Nat.reduceLeDiff, Nat.reduceBEq, Nat.reduceDiv, Nat.reduceMod, Int.reduceToNat, Int.reduceNeg, Int.reduceAdd, Int.reduceSub, Int.reduceMul, Int.reduceEq, Int.reduceNe, Int.reduceLT, Int.reduceLE, Int.reduceGT, Int.reduceGE]
    exact OutP.nil N
  · rintro k fr M' ⟨i, hi, rfl, h3, h6, h9, h10, h11, hO⟩
    obtain ⟨s5, h5⟩ := hO.val
    rw [h5] at hO
    have hM3' := hO.base _ _ hM3
    simp -implicitDefEqProofs (maxSteps := 1000000) (disch := omega) only [↓xsP, ↓vc_seq, xsQ, xsT, xsR, xsD, ↓reduceIte, reduceCtorEq, eq_self, ne_eq, imp_self, forall_const, Nat.reduceEqDiff, Nat.reduceAdd, Nat.reduceSub, Nat.reduceMul, Nat.reduceLT, Nat.reduceLeDiff, Nat.reduceBEq, Nat.reduceDiv, Nat.reduceMod, Int.reduceToNat, Int.reduceNeg, Int.reduceAdd, Int.reduceSub, Int.reduceMul, Int.reduceEq, Int.reduceNe, Int.reduceLT, Int.reduceLE, Int.reduceGT, Int.reduceGE, h5, h3, h6, h9, h10, h11]
    refine condI_prop (fun hlt => ?_) (fun hlt => ?_)
    · have hi' : i < l.length := by omega
      have hwt := wrun_take (p := p) hi'
      have hwl := wrun_len p (l.take i)
      rw [List.length_take] at hwl
      obtain ⟨q, hq⟩ : ∃ q, l.getD i default = q := ⟨_, rfl⟩
      rw [hq] at hwt
      generalize wrun p (l.take i) = s at hwt hwl hO h6
      obtain ⟨o, d⟩ := s
      simp only at hwl hO h6
      simp -implicitDefEqProofs (maxSteps := 1000000) (disch := omega) only [↓xsP, ↓vc_seq, xsQ, xsT, xsR, xsD, ↓reduceIte, reduceCtorEq, eq_self, ne_eq, imp_self, forall_const, Nat.reduceEqDiff, Nat.reduceAdd, Nat.reduceSub, Nat.reduceMul, Nat.reduceLT, Nat.reduceLeDiff, Nat.reduceBEq, Nat.reduceDiv, Nat.reduceMod, Int.reduceToNat, Int.reduceNeg, Int.reduceAdd, Int.reduceSub, Int.reduceMul, Int.reduceEq, Int.reduceNe, Int.reduceLT, Int.reduceLE, Int.reduceGT, Int.reduceGE, h5, h3, h6, h9, h10, h11, hq]
      refine newI_intro fun p8 hp8 => ?_
      have h38 := lt_of_bnd hp8 hM3'
      simp -implicitDefEqProofs (maxSteps := 1000000) (disch := omega) only [↓xsP, ↓vc_seq, xsQ, xsT, xsR, xsD, ↓reduceIte, reduceCtorEq, eq_self, ne_eq, imp_self, forall_const, Nat.reduceEqDiff, Nat.reduceAdd, Nat.reduceSub, Nat.reduceMul, Nat.reduceLT, Nat.reduceLeDiff, Nat.reduceBEq, Nat.reduceDiv, Nat.reduceMod, Int.reduceToNat, Int.reduceNeg, Int.reduceAdd, Int.reduceSub, Int.reduceMul, Int.reduceEq, Int.reduceNe, Int.reduceLT, Int.reduceLE, Int.reduceGT, Int.reduceGE, h5, h3, h6, h9, h10, h11, hq, hM3']
      have hle8 : ∀ b, M'.le (M'.set p8 b) := fun b => le_new (Mem.le_refl _) hp8
      have hn8 : M' p8 = none := hp8 _ (Nat.le_refl _)
      -- the second half of a round
      cases d with
      | true =>
        have hw1 : wst p (o, true) q = (if q.key ≠ p.key then o ++ [q] else o, true) := by simp [wst]
        rw [hw1] at hwt
        simp -implicitDefEqProofs (maxSteps := 1000000) (disch := omega) only [↓xsP, ↓vc_seq, xsQ, xsT, xsR, xsD, ↓reduceIte, reduceCtorEq, eq_self, ne_eq, imp_self, forall_const, Nat.reduceEqDiff, Nat.reduceAdd, Nat.reduceSub, Nat.reduceMul, Nat.reduceLT, Nat.reduceLeDiff, Nat.reduceBEq, Nat.reduceDiv, Nat.reduceMod, Int.reduceToNat, Int.reduceNeg, Int.reduceAdd, Int.reduceSub, Int.reduceMul, Int.reduceEq, Int.reduceNe, Int.reduceLT, Int.reduceLE, Int.reduceGT, Int.reduceGE, h5, h3, h6, h9, h10, h11, hq, hM3']
        refine condI_prop (fun hk => ?_) (fun hk => ?_)
        · rw [if_pos hk] at hwt
          simp -implicitDefEqProofs (maxSteps := 1000000) (disch := omega) only [↓xsP, ↓vc_seq, xsQ, xsT, xsR, xsD, ↓reduceIte, reduceCtorEq, eq_self, ne_eq, imp_self, forall_const, Nat.reduceEqDiff, Nat.reduceAdd, Nat.reduceSub, Nat.reduceMul, Nat.reduceLT, Nat.reduceLeDiff, Nat.reduceBEq, Nat.reduceDiv, Nat.reduceMod, Int.reduceToNat, Int.reduceNeg, Int.reduceAdd, Int.reduceSub, Int.reduceMul, Int.reduceEq, Int.reduceNe, Int.reduceLT, Int.reduceLE, Int.reduceGT, Int.reduceGE, h5, h3, h6, h9, h10, h11, hq, hM3']
          refine newI_intro fun pb hpb => ?_
          simp -implicitDefEqProofs (maxSteps := 1000000) (disch := omega) only [↓xsP, ↓vc_seq, xsQ, xsT, xsR, xsD, ↓reduceIte, reduceCtorEq, eq_self, ne_eq, imp_self, forall_const, Nat.reduceEqDiff, Nat.reduceAdd, Nat.reduceSub, Nat.reduceMul, Nat.reduceLT, Nat.reduceLeDiff, Nat.reduceBEq, Nat.reduceDiv, Nat.reduceMod, Int.reduceToNat, Int.reduceNeg, Int.reduceAdd, Int.reduceSub, Int.reduceMul, Int.reduceEq, Int.reduceNe, Int.reduceLT, Int.reduceLE, Int.reduceGT, Int.reduceGE, h5, h3, h6, h9, h10, h11, hq, hM3']
          refine app_out (p := q) hO (hle8 _) hpb (by simp at hwl; omega) fun v' N' M2 hO2 hle2 _ => ?_
          obtain ⟨s5', rfl⟩ := hO2.val
          simp -implicitDefEqProofs (maxSteps := 1000000) (disch := omega) only [↓xsP, ↓vc_seq, xsQ, xsT, xsR, xsD, ↓reduceIte, reduceCtorEq, eq_self, ne_eq, imp_self, forall_const, Nat.reduceEqDiff, Nat.reduceAdd, Nat.reduceSub, Nat.reduceMul, Nat.reduceLT, Nat.reduceLeDiff, Nat.reduceBEq, Nat.reduceDiv, Nat.reduceMod, Int.reduceToNat, Int.reduceNeg, Int.reduceAdd, Int.reduceSub, Int.reduceMul, Int.reduceEq, Int.reduceNe, Int.reduceLT, Int.reduceLE, Int.reduceGT, Int.reduceGE, h5, h3, h6, h9, h10, h11, hq]
          exact ⟨l.length - (i + 1), M2, by omega, hle2, i + 1, by omega, rfl, by rw [hwt], rfl, by rw [hwt]; exact hO2⟩
        · rw [if_neg hk] at hwt
          simp -implicitDefEqProofs (maxSteps := 1000000) (disch := omega) only [↓xsP, ↓vc_seq, xsQ, xsT, xsR, xsD, ↓reduceIte, reduceCtorEq, eq_self, ne_eq, imp_self, forall_const, Nat.reduceEqDiff, Nat.reduceAdd, Nat.reduceSub, Nat.reduceMul, Nat.reduceLT, Nat.reduceLeDiff, Nat.reduceBEq, Nat.reduceDiv, Nat.reduceMod, Int.reduceToNat, Int.reduceNeg, Int.reduceAdd, Int.reduceSub, Int.reduceMul, Int.reduceEq, Int.reduceNe, Int.reduceLT, Int.reduceLE, Int.reduceGT, Int.reduceGE, h5, h3, h6, h9, h10, h11, hq, hM3']
          exact ⟨l.length - (i + 1), M', by omega, hle8 _, i + 1, by omega, rfl, by rw [hwt], rfl, by rw [hwt]; exact hO⟩
      | false =>
        simp -implicitDefEqProofs (maxSteps := 1000000) (disch := omega) only [↓xsP, ↓vc_seq, xsQ, xsT, xsR, xsD, ↓reduceIte, reduceCtorEq, eq_self, ne_eq, imp_self, forall_const, Nat.reduceEqDiff, Nat.reduceAdd, Nat.reduceSub, Nat.reduceMul, Nat.reduceLT, Nat.reduceLeDiff, Nat.reduceBEq, Nat.reduceDiv, Nat.reduceMod, Int.reduceToNat, Int.reduceNeg, Int.reduceAdd, Int.reduceSub, Int.reduceMul, Int.reduceEq, Int.reduceNe, Int.reduceLT, Int.reduceLE, Int.reduceGT, Int.reduceGE, h5, h3, h6, h9, h10, h11, hq, hM3']
        refine condI_prop (fun hge => ?_) (fun hge => ?_)
        · have hw1 : wst p (o, false) q = (if q.key ≠ p.key then o ++ [p] ++ [q] else o ++ [p], true) := by simp [wst, hge]
          rw [hw1] at hwt
          simp -implicitDefEqProofs (maxSteps := 1000000) (disch := omega) only [↓xsP, ↓vc_seq, xsQ, xsT, xsR, xsD, ↓reduceIte, reduceCtorEq, eq_self, ne_eq, imp_self, forall_const, Nat.reduceEqDiff, Nat.reduceAdd, Nat.reduceSub, Nat.reduceMul, Nat.reduceLT, Nat.reduceLeDiff, Nat.reduceBEq, Nat.reduceDiv, Nat.reduceMod, Int.reduceToNat, Int.reduceNeg, Int.reduceAdd, Int.reduceSub, Int.reduceMul, Int.reduceEq, Int.reduceNe, Int.reduceLT, Int.reduceLE, Int.reduceGT, Int.reduceGE, h5, h3, h6, h9, h10, h11, hq, hM3']
          refine newI_intro fun pb hpb => ?_
          simp -implicitDefEqProofs (maxSteps := 1000000) (disch := omega) only [↓xsP, ↓vc_seq, xsQ, xsT, xsR, xsD, ↓reduceIte, reduceCtorEq, eq_self, ne_eq, imp_self, forall_const, Nat.reduceEqDiff, Nat.reduceAdd, Nat.reduceSub, Nat.reduceMul, Nat.reduceLT, Nat.reduceLeDiff, Nat.reduceBEq, Nat.reduceDiv, Nat.reduceMod, Int.reduceToNat, Int.reduceNeg, Int.reduceAdd, Int.reduceSub, Int.reduceMul, Int.reduceEq, Int.reduceNe, Int.reduceLT, Int.reduceLE, Int.reduceGT, Int.reduceGE, h5, h3, h6, h9, h10, h11, hq, hM3']
          refine app_out (p := p) hO (hle8 _) hpb (by simp at hwl; omega) fun v' N' M2 hO2 hle2 hkeep => ?_
          obtain ⟨s5', h5'⟩ := hO2.val
          subst h5'
          have hN8 := hkeep _ _ (Mem.set_eq M' p8 _) hn8
          have hN3 := hle2 _ _ (hO2.base _ _ hM3)
          simp -implicitDefEqProofs (maxSteps := 1000000) (disch := omega) only [↓xsP, ↓vc_seq, xsQ, xsT, xsR, xsD, ↓reduceIte, reduceCtorEq, eq_self, ne_eq, imp_self, forall_const, Nat.reduceEqDiff, Nat.reduceAdd, Nat.reduceSub, Nat.reduceMul, Nat.reduceLT, Nat.reduceLeDiff, Nat.reduceBEq, Nat.reduceDiv, Nat.reduceMod, Int.reduceToNat, Int.reduceNeg, Int.reduceAdd, Int.reduceSub, Int.reduceMul, Int.reduceEq, Int.reduceNe, Int.reduceLT, Int.reduceLE, Int.reduceGT, Int.reduceGE, h5, h3, h6, h9, h10, h11, hq, hN8, hN3]
          refine condI_prop (fun hk => ?_) (fun hk => ?_)
          · rw [if_pos hk] at hwt
            simp -implicitDefEqProofs (maxSteps := 1000000) (disch := omega) only [↓xsP, ↓vc_seq, xsQ, xsT, xsR, xsD, ↓reduceIte, reduceCtorEq, eq_self, ne_eq, imp_self, forall_const, Nat.reduceEqDiff, Nat.reduceAdd, Nat.reduceSub, Nat.reduceMul, Nat.reduceLT, Nat.reduceLeDiff, Nat.reduceBEq, Nat.reduceDiv, Nat.reduceMod, Int.reduceToNat, Int.reduceNeg, Int.reduceAdd, Int.reduceSub, Int.reduceMul, Int.reduceEq, Int.reduceNe, Int.reduceLT, Int.reduceLE, Int.reduceGT, Int.reduceGE, h5, h3, h6, h9, h10, h11, hq, hN8, hN3]
            refine newI_intro fun pb2 hpb2 => ?_
            simp -implicitDefEqProofs (maxSteps := 1000000) (disch := omega) only [↓xsP, ↓vc_seq, xsQ, xsT, xsR, xsD, ↓reduceIte, reduceCtorEq, eq_self, ne_eq, imp_self, forall_const, Nat.reduceEqDiff, Nat.reduceAdd, Nat.reduceSub, Nat.reduceMul, Nat.reduceLT, Nat.reduceLeDiff, Nat.reduceBEq, Nat.reduceDiv, Nat.reduceMod, Int.reduceToNat, Int.reduceNeg, Int.reduceAdd, Int.reduceSub, Int.reduceMul, Int.reduceEq, Int.reduceNe, Int.reduceLT, Int.reduceLE, Int.reduceGT, Int.reduceGE, h5, h3, h6, h9, h10, h11, hq, hN8, hN3]
            refine app_out (p := q) hO2 hle2 hpb2 (by simp at hwl ⊢; omega) fun v2 N2 M3 hO3 hle3 _ => ?_
            obtain ⟨s6', rfl⟩ := hO3.val
            simp -implicitDefEqProofs (maxSteps := 1000000) (disch := omega) only [↓xsP, ↓vc_seq, xsQ, xsT, xsR, xsD, ↓reduceIte, reduceCtorEq, eq_self, ne_eq, imp_self, forall_const, Nat.reduceEqDiff, Nat.reduceAdd, Nat.reduceSub, Nat.reduceMul, Nat.reduceLT, Nat.reduceLeDiff, Nat.reduceBEq, Nat.reduceDiv, Nat.reduceMod, Int.reduceToNat, Int.reduceNeg, Int.reduceAdd, Int.reduceSub, Int.reduceMul, Int.reduceEq, Int.reduceNe, Int.reduceLT, Int.reduceLE, Int.reduceGT, Int.reduceGE, h5, h3, h6, h9, h10, h11, hq]
            exact ⟨l.length - (i + 1), M3, by omega, hle3, i + 1, by omega, rfl, by rw [hwt], rfl, by rw [hwt]; exact hO3⟩
          · rw [if_neg hk] at hwt
            simp -implicitDefEqProofs (maxSteps := 1000000) (disch := omega) only [↓xsP, ↓vc_seq, xsQ, xsT, xsR, xsD, ↓reduceIte, reduceCtorEq, eq_self, ne_eq, imp_self, forall_const, Nat.reduceEqDiff, Nat.reduceAdd, Nat.reduceSub, Nat.reduceMul, Nat.reduceLT, Nat.reduceLeDiff, Nat.reduceBEq, Nat.reduceDiv, Nat.reduceMod, Int.reduceToNat, Int.reduceNeg, Int.reduceAdd, Int.reduceSub, Int.reduceMul, Int.reduceEq, Int.reduceNe, Int.reduceLT, Int.reduceLE, Int.reduceGT, Int.reduceGE, h5, h3, h6, h9, h10, h11, hq, hN8, hN3]
            exact ⟨l.length - (i + 1), M2, by omega, hle2, i + 1, by omega, rfl, by rw [hwt], rfl, by rw [hwt]; exact hO2⟩
        · have hk : q.key ≠ p.key := by omega
          have hw1 : wst p (o, false) q = (o ++ [q], false) := by
            simp only [wst]
            rw [if_neg (show ¬ (True ∧ q.key ≥ p.key) from fun h => hge h.2), if_pos hk]
          rw [hw1] at hwt
          have hk' : (¬ q.key = p.key) = True := eq_true hk
          simp -implicitDefEqProofs (maxSteps := 1000000) (disch := omega) only [↓xsP, ↓vc_seq, xsQ, xsT, xsR, xsD, ↓reduceIte, reduceCtorEq, eq_self, ne_eq, imp_self, forall_const, Nat.reduceEqDiff, Nat.reduceAdd, Nat.reduceSub, Nat.reduceMul, Nat.reduceLT, Nat.reduceLeDiff, Nat.reduceBEq, Nat.reduceDiv, Nat.reduceMod, Int.reduceToNat, Int.reduceNeg, Int.reduceAdd, Int.reduceSub, Int.reduceMul, Int.reduceEq, Int.reduceNe, Int.reduceLT, Int.reduceLE, Int.reduceGT, Int.reduceGE, h5, h3, h6, h9, h10, h11, hq, hM3', hk']
          refine newI_intro fun pb hpb => ?_
          simp -implicitDefEqProofs (maxSteps := 1000000) (disch := omega) only [↓xsP, ↓vc_seq, xsQ, xsT, xsR, xsD, ↓reduceIte, reduceCtorEq, eq_self, ne_eq, imp_self, forall_const, Nat.reduceEqDiff, Nat.reduceAdd, Nat.reduceSub, Nat.reduceMul, Nat.reduceLT, Nat.reduceLeDiff, Nat.reduceBEq, Nat.reduceDiv, Nat.reduceMod, Int.reduceToNat, Int.reduceNeg, Int.reduceAdd, Int.reduceSub, Int.reduceMul, Int.reduceEq, Int.reduceNe, Int.reduceLT, Int.reduceLE, Int.reduceGT, Int.reduceGE, h5, h3, h6, h9, h10, h11, hq, hM3']
          refine app_out (p := q) hO (hle8 _) hpb (by simp at hwl; omega) fun v' N' M2 hO2 hle2 _ => ?_
          obtain ⟨s5', rfl⟩ := hO2.val
          simp -implicitDefEqProofs (maxSteps := 1000000) (disch := omega) only [↓xsP, ↓vc_seq, xsQ, xsT, xsR, xsD, ↓reduceIte, reduceCtorEq, eq_self, ne_eq, imp_self, forall_const, Nat.reduceEqDiff, Nat.reduceAdd, Nat.reduceSub, Nat.reduceMul, Nat.reduceLT, Nat.reduceLeDiff, Nat.reduceBEq, Nat.reduceDiv, Nat.reduceMod, Int.reduceToNat, Int.reduceNeg, Int.reduceAdd, Int.reduceSub, Int.reduceMul, Int.reduceEq, Int.reduceNe, Int.reduceLT, Int.reduceLE, Int.reduceGT, Int.reduceGE, h5, h3, h6, h9, h10, h11, hq]
          exact ⟨l.length - (i + 1), M2, by omega, hle2, i + 1, by omega, rfl, by rw [hwt], rfl, by rw [hwt]; exact hO2⟩
    · have hi' : i = l.length := by omega
      subst hi'
      rw [List.take_length] at hO h6
      have hwl := wrun_len p l
      rw [withR]
      generalize wrun p l = s at hwl hO h6 ⊢
      obtain ⟨o, d⟩ := s
      simp only at hwl hO h6 ⊢
      cases d with
      | true =>
        simp -implicitDefEqProofs (maxSteps := 1000000) (disch := omega) only [↓xsP, ↓vc_seq, xsQ, xsT, xsR, xsD, ↓reduceIte, reduceCtorEq, eq_self, ne_eq, imp_self, forall_const, Nat.reduceEqDiff, Nat.reduceAdd, Nat.reduceSub, Nat.reduceMul, Nat.reduceLT, Nat.reduceLeDiff, Nat.reduceBEq, Nat.reduceDiv, Nat.reduceMod, Int.reduceToNat, Int.reduceNeg, Int.reduceAdd, Int.reduceSub, Int.reduceMul, Int.reduceEq, Int.reduceNe, Int.reduceLT, Int.reduceLE, Int.reduceGT, Int.reduceGE, h5, h3, h6, h9, h10, h11, hM3']
        exact fin_out hO (Mem.le_refl _) hMN ⟨rfl, rfl⟩
      | false =>
        simp -implicitDefEqProofs (maxSteps := 1000000) (disch := omega) only [↓xsP, ↓vc_seq, xsQ, xsT, xsR, xsD, ↓reduceIte, reduceCtorEq, eq_self, ne_eq, imp_self, forall_const, Nat.reduceEqDiff, Nat.reduceAdd, Nat.reduceSub, Nat.reduceMul, Nat.reduceLT, Nat.reduceLeDiff, Nat.reduceBEq, Nat.reduceDiv, Nat.reduceMod, Int.reduceToNat, Int.reduceNeg, Int.reduceAdd, Int.reduceSub, Int.reduceMul, Int.reduceEq, Int.reduceNe, Int.reduceLT, Int.reduceLE, Int.reduceGT, Int.reduceGE, h5, h3, h6, h9, h10, h11, hM3']
        refine newI_intro fun pb hpb => ?_
        simp -implicitDefEqProofs (maxSteps := 1000000) (disch := omega) only [↓xsP, ↓vc_seq, xsQ, xsT, xsR, xsD, ↓reduceIte, reduceCtorEq, eq_self, ne_eq, imp_self, forall_const, Nat.reduceEqDiff, Nat.reduceAdd, Nat.reduceSub, Nat.reduceMul, Nat.reduceLT, Nat.reduceLeDiff, Nat.reduceBEq, Nat.reduceDiv, Nat.reduceMod, Int.reduceToNat, Int.reduceNeg, Int.reduceAdd, Int.reduceSub, Int.reduceMul, Int.reduceEq, Int.reduceNe, Int.reduceLT, Int.reduceLE, Int.reduceGT, Int.reduceGE, h5, h3, h6, h9, h10, h11, hM3']
        refine app_out (p := p) hO (Mem.le_refl _) hpb (by simp at hwl; omega) fun v' N' M2 hO2 hle2 _ => ?_
        obtain ⟨s5', rfl⟩ := hO2.val
        simp -implicitDefEqProofs (maxSteps := 1000000) (disch := omega) only [↓xsP, ↓vc_seq, xsQ, xsT, xsR, xsD, ↓reduceIte, reduceCtorEq, eq_self, ne_eq, imp_self, forall_const, Nat.reduceEqDiff, Nat.reduceAdd, Nat.reduceSub, Nat.reduceMul, Nat.reduceLT, Nat.reduceLeDiff, Nat.reduceBEq, Nat.reduceDiv, Nat.reduceMod, Int.reduceToNat, Int.reduceNeg, Int.reduceAdd, Int.reduceSub, Int.reduceMul, Int.reduceEq, Int.reduceNe, Int.reduceLT, Int.reduceLE, Int.reduceGT, Int.reduceGE, h5, h3, h6, h9, h10, h11]
        exact fin_out hO2 hle2 hMN ⟨rfl, rfl⟩
end Go.X
set_option linter.unusedVariables false
set_option linter.unusedSimpArgs false
set_option maxHeartbeats 20000000
set_option maxRecDepth 100000
namespace Go.X
open Go.Proofs.Tryd (prog)

theorem wfold_lt {p : Pr} : ∀ (A o : List Pr), (∀ a ∈ A, a.key < p.key) → A.foldl (wst p) (o, false) = (o ++ A, false)
  | [], o, _ => by simp
  | x :: r, o, h => by
    have hx := h x (by simp)
    have e : wst p (o, false) x = (o ++ [x], false) := by
      simp only [wst]
      rw [if_neg (show ¬ (True ∧ x.key ≥ p.key) from fun h => by omega), if_pos (by omega)]
    rw [List.foldl_cons, e, wfold_lt r _ fun a ha => h a (by simp [ha])]
    simp
theorem wfold_gt {p : Pr} : ∀ (C o : List Pr), (∀ c ∈ C, p.key < c.key) → C.foldl (wst p) (o, true) = (o ++ C, true)
  | [], o, _ => by simp
  | x :: r, o, h => by
    have hx := h x (by simp)
    have e : wst p (o, true) x = (o ++ [x], true) := by
      have : x.key ≠ p.key := by omega
      simp [wst, this]
    rw [List.foldl_cons, e, wfold_gt r _ fun a ha => h a (by simp [ha])]
    simp
theorem withR_eq {l : List Pr} (h : Asc l) (p : Pr) : withR l p = withL l p := by
  rcases forms p.key l h with ⟨A, C, hO⟩ | ⟨A, x, C, hI⟩
  · have hw : withL l p = A ++ p :: C := hO.with p.val
    rw [hw]
    obtain ⟨rfl, h1, h2⟩ := hO
    rw [withR, wrun, List.foldl_append, wfold_lt A _ h1]
    cases C with
    | nil => simp
    | cons c r =>
      have hc := h2 c (by simp)
      have e : wst p ([] ++ A, false) c = (A ++ [p] ++ [c], true) := by
        have h1 : c.key ≠ p.key := by omega
        have h2 : p.key ≤ c.key := by omega
        simp [wst, h1, h2]
      rw [List.foldl_cons, e, wfold_gt r _ fun a ha => h2 a (by simp [ha])]
      simp
  · have hw : withL l p = A ++ p :: C := hI.with p.val
    rw [hw]
    obtain ⟨rfl, hk, h1, h2⟩ := hI
    rw [withR, wrun, List.foldl_append, wfold_lt A _ h1]
    have e : wst p ([] ++ A, false) x = (A ++ [p], true) := by
      have h2 : p.key ≤ x.key := by omega
      simp [wst, hk, h2]
    rw [List.foldl_cons, e, wfold_gt C _ h2]
    simp
theorem withoutR_eq {l : List Pr} (h : Asc l) {op : Opn} (hk : op.kind = 3) : (l.filter fun p => decide (p.key ≠ op.key)) = oneL l op := by
  rcases one_forms op h (by omega) with ⟨A, C, hO, hc⟩ | ⟨A, x, C, hI, hc⟩
  · have e : oneL l op = l := by
      rcases hc with ⟨h', _⟩ | ⟨_, h'⟩
      · omega
      · exact h'
    rw [e]
    obtain ⟨rfl, h1, h2⟩ := hO
    refine List.filter_eq_self.2 fun a ha => ?_
    rcases List.mem_append.1 ha with h' | h'
    · have := h1 a h'; simp; omega
    · have := h2 a h'; simp; omega
  · have e : oneL l op = A ++ C := by
      rcases hc with ⟨h', _⟩ | ⟨_, h'⟩ | ⟨h', _⟩
      · omega
      · exact h'
      · omega
    rw [e]
    obtain ⟨rfl, hx, h1, h2⟩ := hI
    have f1 : A.filter (fun p => decide (p.key ≠ op.key)) = A := List.filter_eq_self.2 fun a ha => by have := h1 a ha; simp; omega
    have f2 : C.filter (fun p => decide (p.key ≠ op.key)) = C := List.filter_eq_self.2 fun a ha => by have := h2 a ha; simp; omega
    rw [List.filter_append, List.filter_cons, if_neg (by simp [hx]), f1, f2]

theorem app_clone {N : Mem} {l : List Pr} (hl : l.length ≤ 2000002) {K : AV → Mem → Prop} (hc : ∀ v M', OutP N v M' l → K v M') : @appI Go.Proofs.Tryd.prog N 22 22 (.l .nils) (.l (.sl (l.map Pr.row))) ⟨K⟩ := by
  refine app_nils _ _ _ _ 32 _ _ ti_22 rfl ti_32 (by kernel_rfl) (by decide) _ (l.map Pr.row) ?_ ?_ ?_ ?_ ?_
  · simp -implicitDefEqProofs (maxSteps := 1000000) (disch := omega) only [↓xsP, ↓vc_seq, xsQ, xsT, xsR, xsD, ↓reduceIte, reduceCtorEq, eq_self, ne_eq, imp_self, forall_const, Nat.reduceEqDiff, Nat.reduceAdd, Nat.reduceSub, Nat.reduceMul, Nat.reduceLT, Nat.reduceLeDiff, Nat.reduceBEq, Nat.reduceDiv, Nat.reduceMod, Int.reduceToNat, Int.reduceNeg, Int.reduceAdd, Int.reduceSub, Int.reduceMul, Int.reduceEq, Int.reduceNe, Int.reduceLT, Int.reduceLE, Int.reduceGT, Int.reduceGE]
    rw [if_pos (rows2 l)]
  · exact Nat.le_trans (Nat.mul_le_mul_right _ (show (l.map Pr.row).length ≤ 2000002 by simpa using hl)) (by decide)
  · simp; omega
  · intro h
    have : l = [] := by simpa using h
    exact hc _ _ (.inl ⟨this, rfl, rfl⟩)
  · intro _ id hid
    exact hc _ _ (.inr ⟨id, hid, by simp, rfl⟩)
/-- A slice that is kept, or is being made. -/
def OutQ (M : Mem) (s : Lf) (M' : Mem) (rows : List Pr) : Prop := s = .sl (rows.map Pr.row) ∨ OutP M (.l s) M' rows
theorem finI_outQ {M M' N : Mem} {s : Lf} {rows : List Pr} {a b c d e f : Lf} {K : AV → Mem → Prop} (p5 : Nat) (h : OutQ M s M' rows) (hle : ∀ k bk, k ≠ p5 → M' k = some bk → N k = some bk) {b5 : Blk} (h5 : M p5 = some b5) {M0 : Mem} (h0 : M0.le M) (h05 : M0 p5 = none) (hM : M.le M')
    (hf : ∀ id r, [a, b, c, d, e, f].map (frzL id r) = [a, b, c, d, e, f]) (hK : K (.tup [.l (.sl (rows.map Pr.row)), .agg ([a, b, c, d, e, f].map wkL)]) M0) : @finI Go.Proofs.Tryd.prog (.tup [.l s, .agg [a, b, c, d, e, f]]) N ⟨K⟩ := by
  refine finI_of ?_
  have hMN : M0.le N := fun k bk hk => hle _ _ (fun e => by subst e; rw [h05] at hk; cases hk) (hM _ _ (h0 _ _ hk))
  rcases h with rfl | ⟨rfl, h, rfl⟩ | ⟨idO, hO, h, rfl⟩
  · exact XFin.wk (XFin.le hMN hK)
  · cases h
    exact XFin.wk (XFin.le hMN hK)
  · cases h
    have hO5 := lt_of_bnd hO h5
    refine XFin.frz idO (hle _ _ (by omega) (Mem.set_eq _ _ _)) ?_
    have e2 : frzA idO (rows.map Pr.row) (.tup [.l (.ms idO 0 rows.length), .agg [a, b, c, d, e, f]]) = .tup [.l (.sl (rows.map Pr.row)), .agg [a, b, c, d, e, f]] := by
      have := hf idO (rows.map Pr.row)
      simp only [frzA, frz1, List.map_cons, List.map_nil] at this ⊢
      rw [this]
      simp [frzL, List.take_of_length_le]
    rw [e2]
    refine XFin.wk (XFin.le (M' := M0) (fun k bk hk => ?_) hK)
    have hk' := h0 _ _ hk
    have := lt_of_bnd hO hk'
    rw [Mem.set_ne _ _ _ _ (by omega)]
    exact hMN _ _ hk

theorem doR_spec (l : List Pr) (hl : l.length ≤ 1000000) (op : Opn) (M : Mem) :
    XCalls Go.Proofs.Tryd.prog 15 [.l (.sl (l.map Pr.row)), .agg op.row] M fun r M' => r = .tup [.l (.sl ((doL l op).map Pr.row)), .agg (doA l op).row] ∧ M' = M := by
  refine xcalls_intro (rs := [.tmp 4, .cell 5 34]) Go.Proofs.Tryd.func15 rfl (by kernel_rfl) rfl rfl (by kernel_rfl) (by simp) ?_
  simp -implicitDefEqProofs (maxSteps := 1000000) (disch := omega) only [↓xsP, ↓vc_seq, xsQ, xsT, xsR, xsD, ↓reduceIte, reduceCtorEq, eq_self, ne_eq, imp_self, forall_const, Nat.reduceEqDiff, Nat.reduceAdd, Nat.reduceSub, Nat.reduceMul, Nat.reduceLT, Nat.reduceLeDiff, Nat.reduceBEq, Nat.reduceDiv, Nat.reduceMod, Int.reduceToNat, Int.reduceNeg, Int.reduceAdd, Int.reduceSub, Int.reduceMul, Int.reduceEq, Int.reduceNe, Int.reduceLT, Int.reduceLE, Int.reduceGT, Int.reduceGE]
  refine newI_intro fun p3 hp3 => ?_
  simp -implicitDefEqProofs (maxSteps := 1000000) (disch := omega) only [↓xsP, ↓vc_seq, xsQ, xsT, xsR, xsD, ↓reduceIte, reduceCtorEq, eq_self, ne_eq, imp_self, forall_const, Nat.reduceEqDiff, Nat.reduceAdd, Nat.reduceSub, Nat.reduceMul, Nat.reduceLT, Nat.reduceLeDiff, Nat.reduceBEq, Nat.reduceDiv, Nat.reduceMod, Int.reduceToNat, Int.reduceNeg, Int.reduceAdd, Int.reduceSub, Int.reduceMul, Int.reduceEq, Int.reduceNe, Int.reduceLT, Int.reduceLE, Int.reduceGT, Int.reduceGE]
  refine newI_intro fun p5 hp5 => ?_
  obtain ⟨h35, hp5⟩ := bnd_new hp5
  have hM3 : ((M.set p3 (.cells 25 [op.row] 0)).set p5 (.cells 34 [arow ans0] 0)) p3 = some (.cells 25 [op.row] 0) := by
    rw [Mem.set_ne _ _ _ _ (by omega), Mem.set_eq]
  have hM5 := Mem.set_eq (M.set p3 (.cells 25 [op.row] 0)) p5 (.cells 34 [arow ans0] 0)
  have hMN : M.le ((M.set p3 (.cells 25 [op.row] 0)).set p5 (.cells 34 [arow ans0] 0)) := le_new (le_new (Mem.le_refl M) hp3) hp5
  simp only [Opn.row, arow, ans0] at hM3 hM5 hMN
  simp -implicitDefEqProofs (maxSteps := 1000000) (disch := omega) only [↓xsP, ↓vc_seq, xsQ, xsT, xsR, xsD, ↓reduceIte, reduceCtorEq, eq_self, ne_eq, imp_self, forall_const, Nat.reduceEqDiff, Nat.reduceAdd, Nat.reduceSub, Nat.reduceMul, Nat.reduceLT, Nat.reduceLeDiff, Nat.reduceBEq, Nat.reduceDiv, Nat.reduceMod, Int.reduceToNat, Int.reduceNeg, Int.reduceAdd, Int.reduceSub, Int.reduceMul, Int.reduceEq, Int.reduceNe, Int.reduceLT, Int.reduceLE, Int.reduceGT, Int.reduceGE]
  generalize (M.set p3 _).set p5 _ = N at hM3 hM5 hMN ⊢
  refine app_clone (by omega) fun v M1 hO => ?_
  obtain ⟨s6, rfl⟩ := hO.val
  have hN1 := hO.base
  have h13 := hN1 _ _ hM3
  have h15 := hN1 _ _ hM5
  simp -implicitDefEqProofs (maxSteps := 1000000) (disch := omega) only [↓xsP, ↓vc_seq, xsQ, xsT, xsR, xsD, ↓reduceIte, reduceCtorEq, eq_self, ne_eq, imp_self, forall_const, Nat.reduceEqDiff, Nat.reduceAdd, Nat.reduceSub, Nat.reduceMul, Nat.reduceLT, Nat.reduceLeDiff, Nat.reduceBEq, Nat.reduceDiv, Nat.reduceMod, Int.reduceToNat, Int.reduceNeg, Int.reduceAdd, Int.reduceSub, Int.reduceMul, Int.reduceEq, Int.reduceNe, Int.reduceLT, Int.reduceLE, Int.reduceGT, Int.reduceGE]
  refine call_of (mayPairs_spec l (by omega) _) ?_
  cases hr : bof (Rises l) with
  | false =>
    have hk : okOp l op = false := by rw [okOp, hr]; rfl
    simp -implicitDefEqProofs (maxSteps := 1000000) (disch := omega) only [↓xsP, ↓vc_seq, xsQ, xsT, xsR, xsD, ↓reduceIte, reduceCtorEq, eq_self, ne_eq, imp_self, forall_const, Nat.reduceEqDiff, Nat.reduceAdd, Nat.reduceSub, Nat.reduceMul, Nat.reduceLT, Nat.reduceLeDiff, Nat.reduceBEq, Nat.reduceDiv, Nat.reduceMod, Int.reduceToNat, Int.reduceNeg, Int.reduceAdd, Int.reduceSub, Int.reduceMul, Int.reduceEq, Int.reduceNe, Int.reduceLT, Int.reduceLE, Int.reduceGT, Int.reduceGE, h15]
    refine finI_outQ p5 (.inr hO) (fun k bk hk hh => by rw [Mem.set_ne _ _ _ _ (Ne.symm hk)]; exact hh) hM5 hMN (hp5 _ (Nat.le_refl _)) hN1 (fun _ _ => rfl) ⟨?_, rfl⟩
    rw [doL, doA, if_pos hk, if_pos hk]
    rfl
  | true =>
    simp -implicitDefEqProofs (maxSteps := 1000000) (disch := omega) only [↓xsP, ↓vc_seq, xsQ, xsT, xsR, xsD, ↓reduceIte, reduceCtorEq, eq_self, ne_eq, imp_self, forall_const, Nat.reduceEqDiff, Nat.reduceAdd, Nat.reduceSub, Nat.reduceMul, Nat.reduceLT, Nat.reduceLeDiff, Nat.reduceBEq, Nat.reduceDiv, Nat.reduceMod, Int.reduceToNat, Int.reduceNeg, Int.reduceAdd, Int.reduceSub, Int.reduceMul, Int.reduceEq, Int.reduceNe, Int.reduceLT, Int.reduceLE, Int.reduceGT, Int.reduceGE, h13]
    refine call_of (mayOpR_spec op _) ?_
    cases hm : mayOpB op with
    | false =>
      have hk : okOp l op = false := by rw [okOp, hr, hm]; rfl
      simp -implicitDefEqProofs (maxSteps := 1000000) (disch := omega) only [↓xsP, ↓vc_seq, xsQ, xsT, xsR, xsD, ↓reduceIte, reduceCtorEq, eq_self, ne_eq, imp_self, forall_const, Nat.reduceEqDiff, Nat.reduceAdd, Nat.reduceSub, Nat.reduceMul, Nat.reduceLT, Nat.reduceLeDiff, Nat.reduceBEq, Nat.reduceDiv, Nat.reduceMod, Int.reduceToNat, Int.reduceNeg, Int.reduceAdd, Int.reduceSub, Int.reduceMul, Int.reduceEq, Int.reduceNe, Int.reduceLT, Int.reduceLE, Int.reduceGT, Int.reduceGE, h15]
      refine finI_outQ p5 (.inr hO) (fun k bk hk hh => by rw [Mem.set_ne _ _ _ _ (Ne.symm hk)]; exact hh) hM5 hMN (hp5 _ (Nat.le_refl _)) hN1 (fun _ _ => rfl) ⟨?_, rfl⟩
      rw [doL, doA, if_pos hk, if_pos hk]
      rfl
    | true =>
      have hP : Asc l := (rises_asc l).1 (bof_iff.1 hr)
      simp -implicitDefEqProofs (maxSteps := 1000000) (disch := omega) only [↓xsP, ↓vc_seq, xsQ, xsT, xsR, xsD, ↓reduceIte, reduceCtorEq, eq_self, ne_eq, imp_self, forall_const, Nat.reduceEqDiff, Nat.reduceAdd, Nat.reduceSub, Nat.reduceMul, Nat.reduceLT, Nat.reduceLeDiff, Nat.reduceBEq, Nat.reduceDiv, Nat.reduceMod, Int.reduceToNat, Int.reduceNeg, Int.reduceAdd, Int.reduceSub, Int.reduceMul, Int.reduceEq, Int.reduceNe, Int.reduceLT, Int.reduceLE, Int.reduceGT, Int.reduceGE, h13, h15]
      refine newI_intro fun p7 hp7 => ?_
      have h37 := lt_of_bnd hp7 h13
      have h57 := lt_of_bnd hp7 h15
      have hok : ¬ okOp l op = false := by rw [okOp, hr, hm]; simp
      have hmk := may_kind hm
      have hget : ∀ {k : Int}, op.kind = k → 4 ≤ k → doL l op = l := fun h1 h2 => doL_read (by omega)
      have hle7 : ∀ b, M1.le (M1.set p7 b) := fun b => le_new (Mem.le_refl _) hp7
      obtain ⟨a0, ha0⟩ : ∃ a0 : Ans, a0 = if 0 ≤ place l op.key ∧ op.kind ≤ 4 then ⟨0, true, l.getD (place l op.key).toNat default, 0, []⟩ else ans0 := ⟨_, rfl⟩
      have ha04 : op.kind ≤ 4 → a0 = doA l op := fun h4 => by
        rw [doA_one hP hm h4, ha0, ansAt]
        by_cases h0 : 0 ≤ place l op.key
        · rw [if_pos ⟨h0, h4⟩, if_pos h0]
        · rw [if_neg (fun h => h0 h.1), if_neg h0]
      have ha05 : 5 ≤ op.kind → a0 = ans0 := fun h5 => by rw [ha0, if_neg (by omega)]
      have hpn : a0.pairs = [] := by rw [ha0]; split <;> rfl
      simp -implicitDefEqProofs (maxSteps := 1000000) (disch := omega) only [↓xsP, xsQ, xsT, xsR, xsD, ↓reduceIte, reduceCtorEq, eq_self, ne_eq, imp_self, forall_const, Nat.reduceEqDiff, Nat.reduceAdd, Nat.reduceSub, Nat.reduceMul, Nat.reduceLT, Nat.reduceLeDiff, Nat.reduceBEq, Nat.reduceDiv, Nat.reduceMod, Int.reduceToNat, Int.reduceNeg, Int.reduceAdd, Int.reduceSub, Int.reduceMul, Int.reduceEq, Int.reduceNe, Int.reduceLT, Int.reduceLE, Int.reduceGT, Int.reduceGE]
      refine vc_cut (fun fr N' => fr 0 = .l (.sl (l.map Pr.row)) ∧ fr 3 = .l (.ptr p3 0 0) ∧ fr 5 = .l (.ptr p5 0 0) ∧ fr 6 = .l s6 ∧ fr 7 = .l (.ptr p7 0 0) ∧ N' = M1.set p7 (.cells 34 [arow a0] 0)) ?_ ?_
      · have hfs := fun N => findR_spec l (by omega) op.key N
        rcases place_cases l op.key with ⟨hp, _⟩ | ⟨i, hi, hp, _, _⟩
        · have ha0' : arow a0 = arow ans0 := by rw [ha0, hp, if_neg (by omega)]
          rw [ha0']
          rw [hp] at hfs
          simp -implicitDefEqProofs (maxSteps := 1000000) (disch := omega) only [↓xsP, ↓vc_seq, xsQ, xsT, xsR, xsD, ↓reduceIte, reduceCtorEq, eq_self, ne_eq, imp_self, forall_const, Nat.reduceEqDiff, Nat.reduceAdd, Nat.reduceSub, Nat.reduceMul, Nat.reduceLT, Nat.reduceLeDiff, Nat.reduceBEq, Nat.reduceDiv, Nat.reduceMod, Int.reduceToNat, Int.reduceNeg, Int.reduceAdd, Int.reduceSub, Int.reduceMul, Int.reduceEq, Int.reduceNe, Int.reduceLT, Int.reduceLE, Int.reduceGT, Int.reduceGE, h13, h15]
          refine call_of (hfs _) ?_
          simp -implicitDefEqProofs (maxSteps := 1000000) (disch := omega) only [↓xsP, ↓vc_seq, xsQ, xsT, xsR, xsD, ↓reduceIte, reduceCtorEq, eq_self, ne_eq, imp_self, forall_const, Nat.reduceEqDiff, Nat.reduceAdd, Nat.reduceSub, Nat.reduceMul, Nat.reduceLT, Nat.reduceLeDiff, Nat.reduceBEq, Nat.reduceDiv, Nat.reduceMod, Int.reduceToNat, Int.reduceNeg, Int.reduceAdd, Int.reduceSub, Int.reduceMul, Int.reduceEq, Int.reduceNe, Int.reduceLT, Int.reduceLE, Int.reduceGT, Int.reduceGE, h13, h15, arow, ans0]
        · have q0 : (0 ≤ (i : Int)) = True := eq_true (by omega)
          rw [hp] at hfs
          by_cases h4 : op.kind ≤ 4
          · have q4 : (op.kind ≤ 4) = True := eq_true h4
            have ha0' : arow a0 = arow ⟨0, true, l.getD i default, 0, []⟩ := by rw [ha0, hp, if_pos ⟨by omega, h4⟩]; rfl
            rw [ha0']
            simp -implicitDefEqProofs (maxSteps := 1000000) (disch := omega) only [↓xsP, ↓vc_seq, xsQ, xsT, xsR, xsD, ↓reduceIte, reduceCtorEq, eq_self, ne_eq, imp_self, forall_const, Nat.reduceEqDiff, Nat.reduceAdd, Nat.reduceSub, Nat.reduceMul, Nat.reduceLT, Nat.reduceLeDiff, Nat.reduceBEq, Nat.reduceDiv, Nat.reduceMod, Int.reduceToNat, Int.reduceNeg, Int.reduceAdd, Int.reduceSub, Int.reduceMul, Int.reduceEq, Int.reduceNe, Int.reduceLT, Int.reduceLE, Int.reduceGT, Int.reduceGE, h13, h15, q0, q4]
            refine call_of (hfs _) ?_
            simp -implicitDefEqProofs (maxSteps := 1000000) (disch := omega) only [↓xsP, ↓vc_seq, xsQ, xsT, xsR, xsD, ↓reduceIte, reduceCtorEq, eq_self, ne_eq, imp_self, forall_const, Nat.reduceEqDiff, Nat.reduceAdd, Nat.reduceSub, Nat.reduceMul, Nat.reduceLT, Nat.reduceLeDiff, Nat.reduceBEq, Nat.reduceDiv, Nat.reduceMod, Int.reduceToNat, Int.reduceNeg, Int.reduceAdd, Int.reduceSub, Int.reduceMul, Int.reduceEq, Int.reduceNe, Int.reduceLT, Int.reduceLE, Int.reduceGT, Int.reduceGE, h13, h15, q0, q4, arow]
          · have q4 : (op.kind ≤ 4) = False := eq_false h4
            have ha0' : arow a0 = arow ans0 := by rw [ha0, if_neg (fun h => h4 h.2)]
            rw [ha0']
            simp -implicitDefEqProofs (maxSteps := 1000000) (disch := omega) only [↓xsP, ↓vc_seq, xsQ, xsT, xsR, xsD, ↓reduceIte, reduceCtorEq, eq_self, ne_eq, imp_self, forall_const, Nat.reduceEqDiff, Nat.reduceAdd, Nat.reduceSub, Nat.reduceMul, Nat.reduceLT, Nat.reduceLeDiff, Nat.reduceBEq, Nat.reduceDiv, Nat.reduceMod, Int.reduceToNat, Int.reduceNeg, Int.reduceAdd, Int.reduceSub, Int.reduceMul, Int.reduceEq, Int.reduceNe, Int.reduceLT, Int.reduceLE, Int.reduceGT, Int.reduceGE, h13, h15, q0, q4]
            refine call_of (hfs _) ?_
            simp -implicitDefEqProofs (maxSteps := 1000000) (disch := omega) only [↓xsP, ↓vc_seq, xsQ, xsT, xsR, xsD, ↓reduceIte, reduceCtorEq, eq_self, ne_eq, imp_self, forall_const, Nat.reduceEqDiff, Nat.reduceAdd, Nat.reduceSub, Nat.reduceMul, Nat.reduceLT, Nat.reduceLeDiff, Nat.reduceBEq, Nat.reduceDiv, Nat.reduceMod, Int.reduceToNat, Int.reduceNeg, Int.reduceAdd, Int.reduceSub, Int.reduceMul, Int.reduceEq, Int.reduceNe, Int.reduceLT, Int.reduceLE, Int.reduceGT, Int.reduceGE, h13, h15, q0, q4, arow, ans0]
      · rintro fr N' ⟨h0, h3, h5, h6, h7, rfl⟩
        simp only [arow]
        refine vc_cut (fun fr N' => fr 5 = .l (.ptr p5 0 0) ∧ fr 7 = .l (.ptr p7 0 0) ∧ ∃ s a b c d e f, fr 6 = .l s ∧ OutQ N s M1 (doL l op) ∧ N' = M1.set p7 (.cells 34 [[a, b, c, d, e, f]] 0) ∧ [a, b, c, d, e, f].map wkL = (doA l op).row ∧ ∀ id r, [a, b, c, d, e, f].map (frzL id r) = [a, b, c, d, e, f]) ?_ ?_
        · have hq1 : ∀ b c k bk, k ≠ p5 → M1 k = some bk → ((M1.set p7 b).set p5 c) k = some bk := fun b c k bk hk hh => by
            rw [Mem.set_ne _ _ _ _ (Ne.symm hk)]
            exact hle7 _ _ _ hh
          have hok4 : op.kind ≤ 4 → a0.ok = decide (0 ≤ place l op.key) := fun h4 => by
            rw [ha0]
            by_cases h0p : 0 ≤ place l op.key
            · rw [if_pos ⟨h0p, h4⟩]; simp [h0p]
            · rw [if_neg (fun h => h0p h.1)]; simp [h0p, ans0]
          have ha0w : op.kind ≤ 4 → [Lf.int .i64 a0.err, .bool a0.ok, .int .i64 a0.pair.key, .int .i64 a0.pair.val, .int .i64 a0.n, .nils].map wkL = (doA l op).row := fun h4 => by
            rw [← ha04 h4]
            simp [wkL, Ans.row, hpn]
          have kcases : op.kind = 1 ∨ op.kind = 2 ∨ op.kind = 3 ∨ op.kind = 4 ∨ op.kind = 5 ∨ op.kind = 6 ∨ op.kind = 7 ∨ op.kind = 8 := by omega
          rcases kcases with k | k | k | k | k | k | k | k
          · simp -implicitDefEqProofs (maxSteps := 1000000) (disch := omega) only [↓xsP, ↓vc_seq, xsQ, xsT, xsR, xsD, ↓reduceIte, reduceCtorEq, eq_self, ne_eq, imp_self, forall_const, Nat.reduceEqDiff, Nat.reduceAdd, Nat.reduceSub, Nat.reduceMul, Nat.reduceLT, Nat.reduceLeDiff, Nat.reduceBEq, Nat.reduceDiv, Nat.reduceMod, Int.reduceToNat, Int.reduceNeg, Int.reduceAdd, Int.reduceSub, Int.reduceMul, Int.reduceEq, Int.reduceNe, Int.reduceLT, Int.reduceLE, Int.reduceGT, Int.reduceGE, h0, h3, h5, h6, h7, h13, h15, k]
            refine xwrite (fun n0 => [ (9, p5)]) [9] [] [[], [], [], [], [], [], [], [], [], []] (by kernel_rfl) (by kernel_rfl) (by kernel_rfl) (by kernel_rfl) (fun n0 hn0 => ⟨rfl, ?_, ?_⟩)
            · exact TOk_cons (.inl (lt_of_bnd hn0 (hle7 _ _ _ h15))) (TOk_nil _ _)
            · have h5n := lt_of_bnd hn0 (hle7 _ _ _ h15)
              have h3n := lt_of_bnd hn0 (hle7 _ _ _ h13)
              have h7n := lt_of_bnd hn0 (Mem.set_eq _ p7 _)
              simp -implicitDefEqProofs (maxSteps := 1000000) (disch := omega) only [↓xsP, ↓vc_seq, xsQ, xsT, xsR, xsD, ↓reduceIte, reduceCtorEq, eq_self, ne_eq, imp_self, forall_const, Nat.reduceEqDiff, Nat.reduceAdd, Nat.reduceSub, Nat.reduceMul, Nat.reduceLT, Nat.reduceLeDiff, Nat.reduceBEq, Nat.reduceDiv, Nat.reduceMod, Int.reduceToNat, Int.reduceNeg, Int.reduceAdd, Int.reduceSub, Int.reduceMul, Int.reduceEq, Int.reduceNe, Int.reduceLT, Int.reduceLE, Int.reduceGT, Int.reduceGE, h0, h3, h5, h6, h7, h13, h15, k]
              refine wcallI_of (fun M' _ => withR_spec l hl ⟨op.key, op.val⟩ M') ?_
              simp -implicitDefEqProofs (maxSteps := 1000000) (disch := omega) only [↓xsP, ↓vc_seq, xsQ, xsT, xsR, xsD, ↓reduceIte, reduceCtorEq, eq_self, ne_eq, imp_self, forall_const, Nat.reduceEqDiff, Nat.reduceAdd, Nat.reduceSub, Nat.reduceMul, Nat.reduceLT, Nat.reduceLeDiff, Nat.reduceBEq, Nat.reduceDiv, Nat.reduceMod, Int.reduceToNat, Int.reduceNeg, Int.reduceAdd, Int.reduceSub, Int.reduceMul, Int.reduceEq, Int.reduceNe, Int.reduceLT, Int.reduceLE, Int.reduceGT, Int.reduceGE, h0, h3, h5, h6, h7, h13, h15, k]
              refine finI_outQ p5 (M' := M1) (rows := doL l op) (.inl ?_) (hq1 _ _) hM5 hMN (hp5 _ (Nat.le_refl _)) hN1 (fun _ _ => rfl) ⟨?_, rfl⟩
              · rw [withR_eq hP, doL_upd hP hm (by omega), oneL, if_pos (.inl k)]
              · rw [ha0w (by omega)]
                rfl
          · by_cases h0p : 0 ≤ place l op.key
            · have hokv : a0.ok = true := by rw [hok4 (by omega)]; simp [h0p]
              simp -implicitDefEqProofs (maxSteps := 1000000) (disch := omega) only [↓xsP, ↓vc_seq, xsQ, xsT, xsR, xsD, ↓reduceIte, reduceCtorEq, eq_self, ne_eq, imp_self, forall_const, Nat.reduceEqDiff, Nat.reduceAdd, Nat.reduceSub, Nat.reduceMul, Nat.reduceLT, Nat.reduceLeDiff, Nat.reduceBEq, Nat.reduceDiv, Nat.reduceMod, Int.reduceToNat, Int.reduceNeg, Int.reduceAdd, Int.reduceSub, Int.reduceMul, Int.reduceEq, Int.reduceNe, Int.reduceLT, Int.reduceLE, Int.reduceGT, Int.reduceGE, h0, h3, h5, h6, h7, h13, h15, k, hokv]
              refine ⟨_, _, _, _, _, _, _, rfl, .inr ?_, rfl, ?_, fun _ _ => rfl⟩
              · rw [doL_upd hP hm (by omega), oneL, if_neg (by omega), if_neg (by omega)]
                exact hO
              · have := ha0w (by omega)
                rw [hokv] at this
                exact this
            · have hokv : a0.ok = false := by rw [hok4 (by omega)]; simp [h0p]
              simp -implicitDefEqProofs (maxSteps := 1000000) (disch := omega) only [↓xsP, ↓vc_seq, xsQ, xsT, xsR, xsD, ↓reduceIte, reduceCtorEq, eq_self, ne_eq, imp_self, forall_const, Nat.reduceEqDiff, Nat.reduceAdd, Nat.reduceSub, Nat.reduceMul, Nat.reduceLT, Nat.reduceLeDiff, Nat.reduceBEq, Nat.reduceDiv, Nat.reduceMod, Int.reduceToNat, Int.reduceNeg, Int.reduceAdd, Int.reduceSub, Int.reduceMul, Int.reduceEq, Int.reduceNe, Int.reduceLT, Int.reduceLE, Int.reduceGT, Int.reduceGE, h0, h3, h5, h6, h7, h13, h15, k, hokv]
              refine call_of (withR_spec l hl ⟨op.key, op.val⟩ _) ?_
              simp -implicitDefEqProofs (maxSteps := 1000000) (disch := omega) only [↓xsP, ↓vc_seq, xsQ, xsT, xsR, xsD, ↓reduceIte, reduceCtorEq, eq_self, ne_eq, imp_self, forall_const, Nat.reduceEqDiff, Nat.reduceAdd, Nat.reduceSub, Nat.reduceMul, Nat.reduceLT, Nat.reduceLeDiff, Nat.reduceBEq, Nat.reduceDiv, Nat.reduceMod, Int.reduceToNat, Int.reduceNeg, Int.reduceAdd, Int.reduceSub, Int.reduceMul, Int.reduceEq, Int.reduceNe, Int.reduceLT, Int.reduceLE, Int.reduceGT, Int.reduceGE, h0, h3, h5, h6, h7, h13, h15, k, hokv]
              refine ⟨_, _, _, _, _, _, _, rfl, .inl ?_, rfl, ?_, fun _ _ => rfl⟩
              · rw [withR_eq hP, doL_upd hP hm (by omega), oneL, if_pos (.inr ⟨k, by omega⟩)]
              · have := ha0w (by omega)
                rw [hokv] at this
                exact this
          · simp -implicitDefEqProofs (maxSteps := 1000000) (disch := omega) only [↓xsP, ↓vc_seq, xsQ, xsT, xsR, xsD, ↓reduceIte, reduceCtorEq, eq_self, ne_eq, imp_self, forall_const, Nat.reduceEqDiff, Nat.reduceAdd, Nat.reduceSub, Nat.reduceMul, Nat.reduceLT, Nat.reduceLeDiff, Nat.reduceBEq, Nat.reduceDiv, Nat.reduceMod, Int.reduceToNat, Int.reduceNeg, Int.reduceAdd, Int.reduceSub, Int.reduceMul, Int.reduceEq, Int.reduceNe, Int.reduceLT, Int.reduceLE, Int.reduceGT, Int.reduceGE, h0, h3, h5, h6, h7, h13, h15, k]
            refine call_of (without_spec l (by omega) op.key _) ?_
            simp -implicitDefEqProofs (maxSteps := 1000000) (disch := omega) only [↓xsP, ↓vc_seq, xsQ, xsT, xsR, xsD, ↓reduceIte, reduceCtorEq, eq_self, ne_eq, imp_self, forall_const, Nat.reduceEqDiff, Nat.reduceAdd, Nat.reduceSub, Nat.reduceMul, Nat.reduceLT, Nat.reduceLeDiff, Nat.reduceBEq, Nat.reduceDiv, Nat.reduceMod, Int.reduceToNat, Int.reduceNeg, Int.reduceAdd, Int.reduceSub, Int.reduceMul, Int.reduceEq, Int.reduceNe, Int.reduceLT, Int.reduceLE, Int.reduceGT, Int.reduceGE, h0, h3, h5, h6, h7, h13, h15, k]
            refine ⟨_, _, _, _, _, _, _, rfl, .inl ?_, rfl, ha0w (by omega), fun _ _ => rfl⟩
            rw [withoutR_eq hP k, doL_upd hP hm (by omega)]
          · simp -implicitDefEqProofs (maxSteps := 1000000) (disch := omega) only [↓xsP, ↓vc_seq, xsQ, xsT, xsR, xsD, ↓reduceIte, reduceCtorEq, eq_self, ne_eq, imp_self, forall_const, Nat.reduceEqDiff, Nat.reduceAdd, Nat.reduceSub, Nat.reduceMul, Nat.reduceLT, Nat.reduceLeDiff, Nat.reduceBEq, Nat.reduceDiv, Nat.reduceMod, Int.reduceToNat, Int.reduceNeg, Int.reduceAdd, Int.reduceSub, Int.reduceMul, Int.reduceEq, Int.reduceNe, Int.reduceLT, Int.reduceLE, Int.reduceGT, Int.reduceGE, h0, h3, h5, h6, h7, h13, h15, k]
            refine ⟨_, _, _, _, _, _, _, rfl, .inr ?_, rfl, ha0w (by omega), fun _ _ => rfl⟩
            rw [hget k (by omega)]
            exact hO
          · have ha0' := ha05 (by omega)
            subst ha0'
            have hdo : doA l op = ⟨0, false, ⟨0, 0⟩, (rng l op.key op.to).length, rng l op.key op.to⟩ := by rw [doA, if_neg hok, if_pos k]; rfl
            simp -implicitDefEqProofs (maxSteps := 1000000) (disch := omega) only [↓xsP, ↓vc_seq, xsQ, xsT, xsR, xsD, ↓reduceIte, reduceCtorEq, eq_self, ne_eq, imp_self, forall_const, Nat.reduceEqDiff, Nat.reduceAdd, Nat.reduceSub, Nat.reduceMul, Nat.reduceLT, Nat.reduceLeDiff, Nat.reduceBEq, Nat.reduceDiv, Nat.reduceMod, Int.reduceToNat, Int.reduceNeg, Int.reduceAdd, Int.reduceSub, Int.reduceMul, Int.reduceEq, Int.reduceNe, Int.reduceLT, Int.reduceLE, Int.reduceGT, Int.reduceGE, h0, h3, h5, h6, h7, h13, h15, k, ans0]
            refine call_of (between_spec l (by omega) op.key op.to _) ?_
            simp -implicitDefEqProofs (maxSteps := 1000000) (disch := omega) only [↓xsP, ↓vc_seq, xsQ, xsT, xsR, xsD, ↓reduceIte, reduceCtorEq, eq_self, ne_eq, imp_self, forall_const, Nat.reduceEqDiff, Nat.reduceAdd, Nat.reduceSub, Nat.reduceMul, Nat.reduceLT, Nat.reduceLeDiff, Nat.reduceBEq, Nat.reduceDiv, Nat.reduceMod, Int.reduceToNat, Int.reduceNeg, Int.reduceAdd, Int.reduceSub, Int.reduceMul, Int.reduceEq, Int.reduceNe, Int.reduceLT, Int.reduceLE, Int.reduceGT, Int.reduceGE, h0, h3, h5, h6, h7, h13, h15, k, ans0]
            refine ⟨_, _, _, _, _, _, _, rfl, .inr ?_, rfl, by rw [hdo]; rfl, fun _ _ => rfl⟩
            rw [hget k (by omega)]
            exact hO
          · have ha0' := ha05 (by omega)
            subst ha0'
            have hdo : doA l op = ⟨0, false, ⟨0, 0⟩, (rng l op.key op.to).length, []⟩ := by rw [doA, if_neg hok, if_neg (by omega), if_pos k]; rfl
            simp -implicitDefEqProofs (maxSteps := 1000000) (disch := omega) only [↓xsP, ↓vc_seq, xsQ, xsT, xsR, xsD, ↓reduceIte, reduceCtorEq, eq_self, ne_eq, imp_self, forall_const, Nat.reduceEqDiff, Nat.reduceAdd, Nat.reduceSub, Nat.reduceMul, Nat.reduceLT, Nat.reduceLeDiff, Nat.reduceBEq, Nat.reduceDiv, Nat.reduceMod, Int.reduceToNat, Int.reduceNeg, Int.reduceAdd, Int.reduceSub, Int.reduceMul, Int.reduceEq, Int.reduceNe, Int.reduceLT, Int.reduceLE, Int.reduceGT, Int.reduceGE, h0, h3, h5, h6, h7, h13, h15, k, ans0]
            refine call_of (between_spec l (by omega) op.key op.to _) ?_
            simp -implicitDefEqProofs (maxSteps := 1000000) (disch := omega) only [↓xsP, ↓vc_seq, xsQ, xsT, xsR, xsD, ↓reduceIte, reduceCtorEq, eq_self, ne_eq, imp_self, forall_const, Nat.reduceEqDiff, Nat.reduceAdd, Nat.reduceSub, Nat.reduceMul, Nat.reduceLT, Nat.reduceLeDiff, Nat.reduceBEq, Nat.reduceDiv, Nat.reduceMod, Int.reduceToNat, Int.reduceNeg, Int.reduceAdd, Int.reduceSub, Int.reduceMul, Int.reduceEq, Int.reduceNe, Int.reduceLT, Int.reduceLE, Int.reduceGT, Int.reduceGE, h0, h3, h5, h6, h7, h13, h15, k, ans0]
            refine ⟨_, _, _, _, _, _, _, rfl, .inr ?_, rfl, by rw [hdo]; rfl, fun _ _ => rfl⟩
            rw [hget k (by omega)]
            exact hO
          · have ha0' := ha05 (by omega)
            subst ha0'
            have hdo : doA l op = if l = [] then ans0 else ⟨0, true, l.getD 0 default, 0, []⟩ := by rw [doA, if_neg hok, if_neg (by omega), if_neg (by omega), if_pos k]
            have hget7 := hget k (by omega)
            simp -implicitDefEqProofs (maxSteps := 1000000) (disch := omega) only [↓xsP, ↓vc_seq, xsQ, xsT, xsR, xsD, ↓reduceIte, reduceCtorEq, eq_self, ne_eq, imp_self, forall_const, Nat.reduceEqDiff, Nat.reduceAdd, Nat.reduceSub, Nat.reduceMul, Nat.reduceLT, Nat.reduceLeDiff, Nat.reduceBEq, Nat.reduceDiv, Nat.reduceMod, Int.reduceToNat, Int.reduceNeg, Int.reduceAdd, Int.reduceSub, Int.reduceMul, Int.reduceEq, Int.reduceNe, Int.reduceLT, Int.reduceLE, Int.reduceGT, Int.reduceGE, h0, h3, h5, h6, h7, h13, h15, k, ans0]
            refine condI_prop (fun hp => ?_) (fun hp => ?_)
            · have hl0 : ¬ l = [] := fun e => by subst e; simp at hp
              have hpos : 0 < l.length := by omega
              rw [if_neg hl0] at hdo
              simp -implicitDefEqProofs (maxSteps := 1000000) (disch := omega) only [↓xsP, ↓vc_seq, xsQ, xsT, xsR, xsD, ↓reduceIte, reduceCtorEq, eq_self, ne_eq, imp_self, forall_const, Nat.reduceEqDiff, Nat.reduceAdd, Nat.reduceSub, Nat.reduceMul, Nat.reduceLT, Nat.reduceLeDiff, Nat.reduceBEq, Nat.reduceDiv, Nat.reduceMod, Int.reduceToNat, Int.reduceNeg, Int.reduceAdd, Int.reduceSub, Int.reduceMul, Int.reduceEq, Int.reduceNe, Int.reduceLT, Int.reduceLE, Int.reduceGT, Int.reduceGE, h0, h3, h5, h6, h7, h13, h15, k, ans0]
              exact ⟨_, _, _, _, _, _, _, rfl, .inr (by rw [hget7]; exact hO), rfl, by rw [hdo]; rfl, fun _ _ => rfl⟩
            · have hl0 : l = [] := List.eq_nil_of_length_eq_zero (by omega)
              rw [if_pos hl0] at hdo
              simp -implicitDefEqProofs (maxSteps := 1000000) (disch := omega) only [↓xsP, ↓vc_seq, xsQ, xsT, xsR, xsD, ↓reduceIte, reduceCtorEq, eq_self, ne_eq, imp_self, forall_const, Nat.reduceEqDiff, Nat.reduceAdd, Nat.reduceSub, Nat.reduceMul, Nat.reduceLT, Nat.reduceLeDiff, Nat.reduceBEq, Nat.reduceDiv, Nat.reduceMod, Int.reduceToNat, Int.reduceNeg, Int.reduceAdd, Int.reduceSub, Int.reduceMul, Int.reduceEq, Int.reduceNe, Int.reduceLT, Int.reduceLE, Int.reduceGT, Int.reduceGE, h0, h3, h5, h6, h7, h13, h15, k, ans0]
              exact ⟨_, _, _, _, _, _, _, rfl, .inr (by rw [hget7]; exact hO), rfl, by rw [hdo]; rfl, fun _ _ => rfl⟩
          · have ha0' := ha05 (by omega)
            subst ha0'
            have hdo : doA l op = if l = [] then ans0 else ⟨0, true, l.getD (l.length - 1) default, 0, []⟩ := by rw [doA, if_neg hok, if_neg (by omega), if_neg (by omega), if_neg (by omega), if_pos k]
            have hget7 := hget k (by omega)
            simp -implicitDefEqProofs (maxSteps := 1000000) (disch := omega) only [↓xsP, ↓vc_seq, xsQ, xsT, xsR, xsD, ↓reduceIte, reduceCtorEq, eq_self, ne_eq, imp_self, forall_const, Nat.reduceEqDiff, Nat.reduceAdd, Nat.reduceSub, Nat.reduceMul, Nat.reduceLT, Nat.reduceLeDiff, Nat.reduceBEq, Nat.reduceDiv, Nat.reduceMod, Int.reduceToNat, Int.reduceNeg, Int.reduceAdd, Int.reduceSub, Int.reduceMul, Int.reduceEq, Int.reduceNe, Int.reduceLT, Int.reduceLE, Int.reduceGT, Int.reduceGE, h0, h3, h5, h6, h7, h13, h15, k, ans0]
            refine condI_prop (fun hp => ?_) (fun hp => ?_)
            · have hl0 : ¬ l = [] := fun e => by subst e; simp at hp
              have hpos : 0 < l.length := by omega
              rw [if_neg hl0] at hdo
              simp -implicitDefEqProofs (maxSteps := 1000000) (disch := omega) only [↓xsP, ↓vc_seq, xsQ, xsT, xsR, xsD, ↓reduceIte, reduceCtorEq, eq_self, ne_eq, imp_self, forall_const, Nat.reduceEqDiff, Nat.reduceAdd, Nat.reduceSub, Nat.reduceMul, Nat.reduceLT, Nat.reduceLeDiff, Nat.reduceBEq, Nat.reduceDiv, Nat.reduceMod, Int.reduceToNat, Int.reduceNeg, Int.reduceAdd, Int.reduceSub, Int.reduceMul, Int.reduceEq, Int.reduceNe, Int.reduceLT, Int.reduceLE, Int.reduceGT, Int.reduceGE, h0, h3, h5, h6, h7, h13, h15, k, ans0]
              exact ⟨_, _, _, _, _, _, _, rfl, .inr (by rw [hget7]; exact hO), rfl, by rw [hdo]; rfl, fun _ _ => rfl⟩
            · have hl0 : l = [] := List.eq_nil_of_length_eq_zero (by omega)
              rw [if_pos hl0] at hdo
              simp -implicitDefEqProofs (maxSteps := 1000000) (disch := omega) only [↓xsP, ↓vc_seq, xsQ, xsT, xsR, xsD, ↓reduceIte, reduceCtorEq, eq_self, ne_eq, imp_self, forall_const, Nat.reduceEqDiff, Nat.reduceAdd, Nat.reduceSub, Nat.reduceMul, Nat.reduceLT, Nat.reduceLeDiff, Nat.reduceBEq, Nat.reduceDiv, Nat.reduceMod, Int.reduceToNat, Int.reduceNeg, Int.reduceAdd, Int.reduceSub, Int.reduceMul, Int.reduceEq, Int.reduceNe, Int.reduceLT, Int.reduceLE, Int.reduceGT, Int.reduceGE, h0, h3, h5, h6, h7, h13, h15, k, ans0]
              exact ⟨_, _, _, _, _, _, _, rfl, .inr (by rw [hget7]; exact hO), rfl, by rw [hdo]; rfl, fun _ _ => rfl⟩
        · clear h0 h3 h5 h6 h7
          rintro fr N' ⟨h5, h7, s, a, b, c, d, e, f, h6, hQ, rfl, hw, hf⟩
          simp -implicitDefEqProofs (maxSteps := 1000000) (disch := omega) only [↓xsP, ↓vc_seq, xsQ, xsT, xsR, xsD, ↓reduceIte, reduceCtorEq, eq_self, ne_eq, imp_self, forall_const, Nat.reduceEqDiff, Nat.reduceAdd, Nat.reduceSub, Nat.reduceMul, Nat.reduceLT, Nat.reduceLeDiff, Nat.reduceBEq, Nat.reduceDiv, Nat.reduceMod, Int.reduceToNat, Int.reduceNeg, Int.reduceAdd, Int.reduceSub, Int.reduceMul, Int.reduceEq, Int.reduceNe, Int.reduceLT, Int.reduceLE, Int.reduceGT, Int.reduceGE, h5, h6, h7]
          refine xwrite (fun n0 => [ (3, p5)]) [3] [] [[], [], [], []] (by kernel_rfl) (by kernel_rfl) (by kernel_rfl) (by kernel_rfl) (fun n0 hn0 => ⟨rfl, ?_, ?_⟩)
          · exact TOk_cons (.inl (lt_of_bnd hn0 (hle7 _ _ _ h15))) (TOk_nil _ _)
          · have h5n := lt_of_bnd hn0 (hle7 _ _ _ h15)
            have h7n := lt_of_bnd hn0 (Mem.set_eq _ p7 _)
            simp -implicitDefEqProofs (maxSteps := 1000000) (disch := omega) only [↓xsP, ↓vc_seq, xsQ, xsT, xsR, xsD, ↓reduceIte, reduceCtorEq, eq_self, ne_eq, imp_self, forall_const, Nat.reduceEqDiff, Nat.reduceAdd, Nat.reduceSub, Nat.reduceMul, Nat.reduceLT, Nat.reduceLeDiff, Nat.reduceBEq, Nat.reduceDiv, Nat.reduceMod, Int.reduceToNat, Int.reduceNeg, Int.reduceAdd, Int.reduceSub, Int.reduceMul, Int.reduceEq, Int.reduceNe, Int.reduceLT, Int.reduceLE, Int.reduceGT, Int.reduceGE, h5, h6, h7, h15]
            refine finI_outQ p5 hQ (fun k bk hk hh => ?_) hM5 hMN (hp5 _ (Nat.le_refl _)) hN1 hf ⟨?_, rfl⟩
            · rw [Mem.set_ne _ _ _ _ (Ne.symm hk)]
              exact hle7 _ _ _ hh
            · rw [hw]
              rfl
end Go.X
set_option linter.unusedVariables false
set_option linter.unusedSimpArgs false
set_option maxHeartbeats 20000000
set_option maxRecDepth 100000
namespace Go.X
open Go.Proofs.Tryd (prog)

/-- A slice of pairs that may be nil. -/
def IsL (x : Lf) (s : List Pr) : Prop := x = .sl (s.map Pr.row) ∨ s = [] ∧ x = .nils
theorem IsL.sl (s : List Pr) : IsL (.sl (s.map Pr.row)) s := .inl rfl
theorem doR_is {x : Lf} {l : List Pr} (hx : IsL x l) (hl : l.length ≤ 1000000) (op : Opn) (M : Mem) : XCalls Go.Proofs.Tryd.prog 15 [.l x, .agg op.row] M fun r M' => r = .tup [.l (.sl ((doL l op).map Pr.row)), .agg (doA l op).row] ∧ M' = M := by
  rcases hx with rfl | ⟨rfl, rfl⟩
  · exact doR_spec l hl op M
  · exact XCalls.wk (doR_spec [] hl op M)
end Go.X
set_option linter.unusedVariables false
set_option linter.unusedSimpArgs false
set_option maxHeartbeats 20000000
set_option maxRecDepth 100000
namespace Go.X
open Go.Proofs.Tryd (prog)

noncomputable def goesO (C : List Cl) : List Int → List Pr → Option (List Pr)
  | [], s => some s
  | i :: r, s => if 0 ≤ (clAt C i).fin ∧ doA s (clAt C i).op ≠ (clAt C i).ans then none else goesO C r (doL s (clAt C i).op)
theorem doA_lenO (l : List Pr) (op : Opn) : (doA l op).pairs.length ≤ l.length := by
  have h1 := stays_len (outside op.key op.to) l
  rw [doA]
  split
  · simp
  · split
    · exact h1
    · split
      · simp
      · split
        · split <;> simp [ans0]
        · split
          · split <;> simp [ans0]
          · rw [ansAt_pairs]; simp
noncomputable def rightB (b : List Pr) (h : List Evt) (l : List Int) : Bool := bof (Rises b) && (okP h && (namedB (callsP h) l && timelyB (callsP h) l))
noncomputable def rightO (b : List Pr) (h : List Evt) (l : List Int) : Option (List Pr) := if rightB b h l = true then goesO (callsP h) l (putL b) else none
end Go.X
set_option linter.unusedVariables false
set_option linter.unusedSimpArgs false
set_option maxHeartbeats 20000000
set_option maxRecDepth 100000
namespace Go.X
open Go.Proofs.Tryd (prog)

theorem lastV_noneO {k : Int} : ∀ {l : List Pr} {o : Option Int}, (∀ p ∈ l, p.key ≠ k) → lastV k o l = o
  | [], o, _ => rfl
  | p :: r, o, h => by
    rw [lastV, List.foldl_cons, if_neg (fun e => h p (by simp) e.symm)]
    exact lastV_noneO (l := r) fun q hq => h q (by simp [hq])
theorem lastV_ascO {k : Int} : ∀ {l : List Pr} {o : Option Int}, Asc l → lastV k o l = (match look l k with | some v => some v | none => o)
  | [], o, _ => rfl
  | p :: r, o, h => by
    have h2 := List.pairwise_cons.1 h
    rw [look]
    by_cases e : p.key = k
    · rw [if_pos e, lastV, List.foldl_cons, if_pos e.symm]
      refine lastV_noneO (l := r) fun q hq => ?_
      have := h2.1 q hq
      omega
    · rw [if_neg e, lastV, List.foldl_cons, if_neg (fun h => e h.symm)]
      exact lastV_ascO (l := r) h2.2
theorem putL_idO {l : List Pr} (h : Asc l) : putL l = l := look_ext (putL_asc l) h fun k => by
  rw [putL_look, lastV_ascO h]
  cases look l k <;> rfl

/-- A slice of pairs that may be nil, or stand in a block that is kept. -/
def IsK (M : Mem) (x : Lf) (l : List Pr) : Prop := IsL x l ∨ ∃ id keep, M id = some (.cells 32 (l.map Pr.row) keep) ∧ l.length ≤ keep ∧ x = .ms id 0 l.length
theorem IsK.sl (M : Mem) (l : List Pr) : IsK M (.sl (l.map Pr.row)) l := .inl (.inl rfl)
theorem IsK.le {M N : Mem} {x : Lf} {l : List Pr} (h : IsK M x l) (hle : M.le N) : IsK N x l := by
  rcases h with h | ⟨id, keep, h1, h2, h3⟩
  · exact .inl h
  · exact .inr ⟨id, keep, hle _ _ h1, h2, h3⟩
theorem doR_isK {M : Mem} {x : Lf} {l : List Pr} (hx : IsK M x l) (hl : l.length ≤ 1000000) (op : Opn) : XCalls Go.Proofs.Tryd.prog 15 [.l x, .agg op.row] M fun r M' => r = .tup [.l (.sl ((doL l op).map Pr.row)), .agg (doA l op).row] ∧ M' = M := by
  rcases hx with hx | ⟨id, keep, h1, h2, rfl⟩
  · exact doR_is hx hl op M
  · exact XCalls.kept2 id l.length h1 (by simp) (by simpa using h2) (opn_frz _ _ op) (doR_spec l hl op M)
end Go.X
set_option linter.unusedVariables false
set_option linter.unusedSimpArgs false
set_option maxHeartbeats 20000000
set_option maxRecDepth 100000
namespace Go.X
open Go.Proofs.Tryd (prog)

def c0 : Cl := ⟨1, 0, 2, ⟨4, 0, 0, 0⟩, ans0⟩
def c1 : Cl := ⟨0, 1, -1, ⟨7, 0, 0, 0⟩, ans0⟩
end Go.X
set_option linter.unusedVariables false
set_option linter.unusedSimpArgs false
set_option maxHeartbeats 20000000
set_option maxRecDepth 100000
namespace Go.X
open Go.Proofs.Tryd (prog)

def hist9 : List Evt := [⟨0, false, ⟨1, 1, 0, 5⟩, ans0⟩, ⟨1, false, ⟨4, 1, 0, 0⟩, ans0⟩, ⟨1, true, ⟨4, 1, 0, 0⟩, ⟨0, true, ⟨1, 5⟩, 0, []⟩⟩]
def C9 : List Cl := [⟨0, 0, -1, ⟨1, 1, 0, 5⟩, ans0⟩, ⟨1, 1, 2, ⟨4, 1, 0, 0⟩, ⟨0, true, ⟨1, 5⟩, 0, []⟩⟩]
theorem readP_hist9 : readP hist9 = some C9 := by
  simp [readP, hist9, C9, rrun, rstep, iget, iput, idel, mayOpB, List.getD]
theorem callsP_hist9 : callsP hist9 = C9 := by rw [callsP, readP_hist9]; rfl
theorem okP_hist9 : okP hist9 = true := by rw [okP, readP_hist9]; rfl
theorem small9 : Small hist9 := by
  refine ⟨by decide, fun x hx => ?_⟩
  simp only [hist9, List.mem_cons, List.not_mem_nil, or_false] at hx
  rcases hx with rfl | rfl | rfl <;> decide
theorem put9 : doL [] ⟨1, 1, 0, 5⟩ = [⟨1, 5⟩] := by
  rw [doL_upd (by simp [Asc]) (by decide) (by decide)]
  decide
theorem get9 : doA [⟨1, 5⟩] ⟨4, 1, 0, 0⟩ = ⟨0, true, ⟨1, 5⟩, 0, []⟩ := by
  rw [doA_one (asc1 _) (by decide) (by decide)]
  decide
theorem get9' : (doA [] ⟨4, 1, 0, 0⟩).ok = false := by
  rw [doA_one (by simp [Asc]) (by decide) (by decide)]
  decide
theorem read9 (s : List Pr) : doL s ⟨4, 1, 0, 0⟩ = s := doL_read (by decide)
theorem goes9a : goesO C9 [0, 1] [] = some [⟨1, 5⟩] := by
  rw [goesO, if_neg (fun h => absurd h.1 (by decide)), show (clAt C9 0).op = ⟨1, 1, 0, 5⟩ from rfl, put9, goesO, if_neg (fun h => h.2 (by rw [show (clAt C9 1).op = ⟨4, 1, 0, 0⟩ from rfl, get9]; rfl)), show (clAt C9 1).op = ⟨4, 1, 0, 0⟩ from rfl, read9, goesO]
theorem goes9b (r : List Int) : goesO C9 (1 :: r) [] = none := by
  have hne : doA [] (clAt C9 1).op ≠ (clAt C9 1).ans := fun h => by
    have := congrArg Ans.ok h
    rw [show (clAt C9 1).op = ⟨4, 1, 0, 0⟩ from rfl, get9'] at this
    cases this
  rw [goesO, if_pos ⟨by decide, hne⟩]
theorem right9a : rightO [] hist9 [0, 1] = some [⟨1, 5⟩] := by
  rw [rightO, callsP_hist9, rightB, callsP_hist9, okP_hist9, bof_true (show Rises [] from fun j h1 h2 => by simp at h2)]
  have h1 : namedB C9 [0, 1] = true := bof_true ⟨by decide, by decide, by decide⟩
  have h2 : timelyB C9 [0, 1] = true := bof_true fun a b h1 h2 => by
    have : a = 0 ∧ b = 1 := by simp at h2; omega
    obtain ⟨rfl, rfl⟩ := this
    exact fun h => absurd h.2 (by decide)
  rw [h1, h2]
  exact goes9a
theorem right9b (r : List Int) : rightO [] hist9 (1 :: r) = none := by
  rw [rightO, callsP_hist9, show putL [] = [] from rfl, goes9b]
  split <;> rfl
end Go.X
set_option linter.unusedVariables false
set_option linter.unusedSimpArgs false
set_option maxRecDepth 100000
namespace Go.X

theorem goesO_app {C : List Cl} : ∀ (A R : List Int) (s : List Pr), goesO C (A ++ R) s = (goesO C A s).bind (goesO C R)
  | [], R, s => rfl
  | i :: A, R, s => by
    rw [List.cons_append, goesO, goesO]
    split
    · rfl
    · exact goesO_app A R _
theorem timely_pw (C : List Cl) (l : List Int) : timelyB C l = bof (l.Pairwise fun i j => ¬ befP (clAt C j) (clAt C i)) := by
  rw [timelyB]
  refine bof_congr ?_
  rw [List.pairwise_iff_getElem]
  constructor
  · intro h i j hi hj hij
    have := h i j hij hj
    simpa [List.getD_eq_getElem?_getD, hi, hj] using this
  · intro h a b hab hb
    have := h a b (by omega) hb hab
    simpa [List.getD_eq_getElem?_getD, show a < l.length by omega, hb] using this
/-- append to a slice that has just been made, without rows. -/
theorem app_mk2 {e t : TypeId} {ti te : TI} (hti : tiOf Go.Proofs.Tryd.prog t = some ti) (hd : ti.d = .slice e) (hte : tiOf Go.Proofs.Tryd.prog e = some te) (hz : zeroFits Go.Proofs.Tryd.prog e = true) (hsz : 0 < te.size) (hby : te.bytes ≤ 128)
    {N : Mem} {src : List (List Lf)} {pb : Nat} (hr : ∀ r ∈ src, r.length = te.size) (hb : ∀ j, pb ≤ j → N j = none) (hlen : src.length ≤ 1000001) {K : AV → Mem → Prop}
    (hc : ∀ idA N', (∀ j, idA ≤ j → N j = none) → N' idA = some (.cells e src 0) → N.le N' → K (.l (.ms idA 0 src.length)) N') :
    @appI Go.Proofs.Tryd.prog (N.set pb (.cells e [] 0)) t t (.l (.ms pb 0 0)) (.l (.sl src)) ⟨K⟩ := by
  have hsrc : ∀ X : Mem, srcRows Go.Proofs.Tryd.prog X t t e te (.l (.sl src)) = some src := fun X => by
    simp only [srcRows, if_true]
    rw [if_pos hr]
  refine app_ms _ _ _ _ e _ _ hti hd hte hz hsz pb 0 _ (rows := []) (keep := 0) src (Mem.set_eq _ _ _) (hsrc _) (Nat.le_refl _) (Nat.zero_le _) ?_ ?_ ?_
  · have h1 : (0 + src.length) * te.bytes ≤ 1000001 * 128 := Nat.mul_le_mul (by omega) hby
    omega
  · omega
  · intro idA hidA
    obtain ⟨hbA, hA⟩ := bnd_new hidA
    have := hc idA (((N.set pb (.cells e [] 0)).del pb).set idA (.cells e src 0)) hA (Mem.set_eq _ _ _) fun k bk hk => by
      have := lt_of_bnd hb hk
      have := lt_of_bnd hA hk
      rw [Mem.set_ne _ _ _ _ (by omega), Mem.del_ne _ _ _ (by omega), Mem.set_ne _ _ _ _ (by omega)]
      exact hk
    simpa using this
end Go.X
set_option linter.unusedVariables false
set_option linter.unusedSimpArgs false
set_option maxRecDepth 100000
namespace Go.X

theorem right_inv {b : List Pr} {h : List Evt} {l : List Int} {s : List Pr} (hr : rightO b h l = some s) : bof (Rises b) = true ∧ okP h = true ∧ namedB (callsP h) l = true ∧ timelyB (callsP h) l = true ∧ goesO (callsP h) l (putL b) = some s := by
  rw [rightO] at hr
  split at hr
  · rename_i hB
    rw [rightB, Bool.and_eq_true, Bool.and_eq_true, Bool.and_eq_true] at hB
    exact ⟨hB.1, hB.2.1, hB.2.2.1, hB.2.2.2, hr⟩
  · cases hr
theorem right_mk {b : List Pr} {h : List Evt} {l : List Int} (h1 : bof (Rises b) = true) (h2 : okP h = true) (h3 : namedB (callsP h) l = true) (h4 : timelyB (callsP h) l = true) : rightO b h l = goesO (callsP h) l (putL b) := by
  rw [rightO, if_pos (by rw [rightB, h1, h2, h3, h4]; rfl)]
end Go.X
set_option linter.unusedVariables false
set_option linter.unusedSimpArgs false
set_option maxRecDepth 100000
namespace Go.X

def allI (n : Nat) : List Int := (List.range n).map fun j : Nat => (j : Int)
theorem allI_len (n : Nat) : (allI n).length = n := by simp [allI]
theorem allI_succ (n : Nat) : allI (n + 1) = allI n ++ [(n : Int)] := by simp [allI, List.range_succ]
theorem mem_allI {n : Nat} {x : Int} : x ∈ allI n ↔ 0 ≤ x ∧ x < n := by
  rw [allI, List.mem_map]
  constructor
  · rintro ⟨j, hj, rfl⟩
    have := List.mem_range.1 hj
    omega
  · rintro ⟨h0, h1⟩
    exact ⟨x.toNat, List.mem_range.2 (by omega), Int.toNat_of_nonneg h0⟩
theorem allI_get {n i : Nat} (hi : i < n) : (allI n).getD i default = (i : Int) := by
  simp [allI, List.getD_eq_getElem?_getD, hi]
theorem allI_lt (n : Nat) : (allI n).Pairwise (· < ·) := by
  rw [allI, List.pairwise_map]
  exact List.pairwise_lt_range.imp fun h => by omega
theorem lt_nodup {l : List Int} (h : l.Pairwise (· < ·)) : l.Nodup := h.imp fun h e => by omega
/-- What one map told, one call after the other. -/
noncomputable def soS (b : List Pr) (C : List Cl) : Nat → List Pr × Bool
  | 0 => (b, true)
  | n + 1 => (doL (soS b C n).1 (C.getD n default).op, (soS b C n).2 && bof (doA (soS b C n).1 (C.getD n default).op = (C.getD n default).ans))
theorem clAt_nat (C : List Cl) (n : Nat) : clAt C (n : Int) = C.getD n default := by rw [clAt, Int.toNat_natCast]
theorem goes_all {b : List Pr} {C : List Cl} : ∀ {n : Nat}, (∀ j, j < n → 0 ≤ (C.getD j default).fin) → goesO C (allI n) b = if (soS b C n).2 = true then some (soS b C n).1 else none
  | 0, _ => rfl
  | n + 1, h => by
    have ih := goes_all (b := b) (C := C) (n := n) fun j hj => h j (by omega)
    have h0 := h n (by omega)
    rw [allI_succ, goesO_app, ih]
    cases hs : (soS b C n).2 with
    | false =>
      rw [soS, hs]
      rfl
    | true =>
      rw [if_pos rfl, Option.bind_some, goesO, clAt_nat, soS, hs]
      by_cases e : doA (soS b C n).1 (C.getD n default).op = (C.getD n default).ans
      · rw [if_neg (fun h => h.2 e), goesO]
        simp only [bof_true e, Bool.true_and, if_true]
      · rw [if_pos ⟨h0, e⟩]
        simp only [bof_false e, Bool.and_false]
        rfl
end Go.X
set_option linter.unusedVariables false
set_option linter.unusedSimpArgs false
set_option maxHeartbeats 20000000
set_option maxRecDepth 100000
namespace Go.X
open Go.Proofs.Tryd (prog)
open Go.RowKit

theorem ne_ty {B : Mem} {i j T T' k k' : Nat} {rs rs' : List (List Lf)} (h : B i = some (.cells T rs k)) (h' : B j = some (.cells T' rs' k')) (hT : T ≠ T') : i ≠ j := fun e => by
  rw [e, h'] at h
  simp only [Option.some.injEq, Blk.cells.injEq] at h
  exact hT h.1.symm
def byR (l : List UInt8) : List (List Lf) := l.map fun b => [.int .u8 (b.toNat : Int)]
theorem byR_app (a b : List UInt8) : byR (a ++ b) = byR a ++ byR b := List.map_append
theorem byR_len (a : List UInt8) : (byR a).length = a.length := List.length_map _
theorem byR_ne {a : List UInt8} (h : a ≠ []) : byR a ≠ [] := fun e => h (List.map_eq_nil_iff.1 e)
/-- A buffer of one's own: nil, or a block; and the memory without it. -/
inductive Buf (M : Mem) : Lf → List UInt8 → Mem → Prop
  | nil : Buf M .nils [] M
  | ms {id : Nat} {l : List UInt8} (h : M id = some (.cells 5 (byR l) 0)) : Buf M (.ms id 0 l.length) l (M.del id)
theorem Buf.le {M M0 : Mem} {x : Lf} {l : List UInt8} (h : Buf M x l M0) : M0.le M := by
  cases h with
  | nil => exact Mem.le_refl _
  | ms h => exact fun k bk hk => by rw [Mem.del_app] at hk; split at hk; cases hk; exact hk
theorem app_buf {M M0 : Mem} {x : Lf} {l bs : List UInt8} (hb : Buf M x l M0) {tx : TypeId} {src : AV} (hsrc : ∀ te, tiOf Go.Proofs.Tryd.prog 5 = some te → srcRows Go.Proofs.Tryd.prog M 96 tx 5 te src = some (byR bs)) (hne : bs ≠ []) (hlen : (l ++ bs).length ≤ 1000000000) {K : AV → Mem → Prop}
    (h : ∀ id', (∀ j, id' ≤ j → M j = none) → K (.l (.ms id' 0 (l ++ bs).length)) (M0.set id' (.cells 5 (byR (l ++ bs)) 0))) : @appI Go.Proofs.Tryd.prog M 96 tx (.l x) src ⟨K⟩ := by
  cases hb with
  | nil =>
    refine app_nils _ _ _ _ 5 _ _ ti_96 rfl ti_5 (by kernel_rfl) (by decide) _ (byR bs) (hsrc _ ti_5) ?_ ?_ (fun e => absurd e (byR_ne hne)) (fun _ id' hid => ?_)
    · rw [byR_len]
      rw [List.nil_append] at hlen
      show bs.length * 1 ≤ _
      omega
    · rw [byR_len]
      rw [List.nil_append] at hlen
      omega
    · rw [byR_len]
      exact h id' hid
  | ms hM =>
    rename_i id
    rw [List.length_append] at hlen
    refine app_ms _ _ _ _ 5 _ _ ti_96 rfl ti_5 (by kernel_rfl) (by decide) id l.length _ (rows := byR l) (keep := 0) (byR bs) hM (hsrc _ ti_5) (by rw [byR_len]; exact Nat.le_refl _) (Nat.zero_le _) ?_ ?_ (fun id' hid => ?_)
    · rw [byR_len]
      show (l.length + bs.length) * 1 ≤ _
      omega
    · rw [byR_len]
      omega
    · have := h id' hid
      rw [byR_app, List.length_append] at this
      rw [List.take_of_length_le (by rw [byR_len]; exact Nat.le_refl _), byR_len]
      exact this

/-- Cells of a block that no id names are never written again. -/
theorem rel_frz_out {g : Gh} {M : Mem} {w : World} (h : Rel g M w) {b0 n : Nat} (hnew : ∀ id x, g.blk id = some x → x.1 ≠ b0) (hc : ∀ o, o < n → ∃ v, w.cell? ⟨b0, o, none⟩ = some v) : Ev g w (g.frz b0 n) w ∧ Rel (g.frz b0 n) M w := by
  have e : Ev g w (g.frz b0 n) w := ⟨rfl, rfl, fun _ _ h => h, fun _ _ h => .inl h, fun _ _ _ => rfl, rfl, fun _ _ h => h⟩
  refine ⟨e, ?_⟩
  exact {
    blk := fun i blk hb => (h.blk i blk hb).ev e (fun _ _ => rfl) (fun y hy o ho => by
      rcases ho with ho | ⟨he, _⟩
      · exact ho
      · exact absurd he (hnew i y hy))
    inj := h.inj
    lt := h.lt
    fz := fun b o ho => by
      rcases ho with ho | ⟨rfl, ho⟩
      · exact h.fz b o ho
      · exact hc o ho
    fin := h.fin
    below := h.below
    tab := h.tab }
theorem rel_pow {g : Gh} {M : Mem} {w : World} (h : Rel g M w) (hP : g.P = Go.Proofs.Tryd.prog) : PowTab w := by
  obtain ⟨t, fr, h0⟩ := h.tab.1 (by rw [hP]; exact of_decide_eq_true (by kernel_rfl))
  have h1 : PowTab g.w0 := ⟨t, fr, h0⟩
  exact h1.on (b := g.w0.heap.size) (by have := (Array.getElem?_eq_some_iff.1 h0).1; omega) h.below
theorem digits_conc {g : Gh} {w : World} {b0 : Nat} {l : List UInt8} (hc : ∀ j c, (Lib.byteCells l)[j]? = some c → w.cell? ((⟨b0, 0, none⟩ : Addr).add j) = some c) (cap : Nat) (hcap : l.length ≤ cap) : ConcA (g.frz b0 l.length) w (.l (.sl (byR l))) (.slice (some ⟨b0, 0, none⟩) l.length cap) := by
  refine .l ?_
  have hb : ∀ i : Nat, i < l.length → (Lib.byteCells l)[i]? = some (.int .u8 ((l.getD i 0).toNat : Int)) := fun i hi => by simp [Lib.byteCells, hi, List.getD_eq_getElem?_getD]
  have := Conc.sl (g := g.frz b0 l.length) (w := w) (rows := byR l) (b := b0) (o := 0) (sz := 1) (cap := cap) (fun i => .int .u8 ((l.getD i 0).toNat : Int)) (fun r hr => by
    obtain ⟨x, -, rfl⟩ := List.mem_map.1 hr
    rfl) (by rw [byR_len]; exact hcap) (fun i hi => by
    rw [byR_len, Nat.mul_one] at hi
    have h1 := hc i _ (hb i hi)
    rw [addr_add] at h1
    exact ⟨.inr ⟨rfl, by omega⟩, h1⟩) (fun i j r x hr hx => by
    rw [byR, List.getElem?_map] at hr
    obtain ⟨y, hy, rfl⟩ := Option.map_eq_some_iff.1 hr
    cases j with
    | zero =>
      simp only [List.getElem?_cons_zero, Option.some.injEq] at hx
      subst hx
      have : l.getD i 0 = y := by rw [List.getD_eq_getElem?_getD, hy]; rfl
      rw [Nat.mul_one, Nat.add_zero, this]
      exact .int _ _
    | succ j => simp at hx)
  rwa [byR_len] at this
theorem decDigits_ne (u : Nat) : Lib.decDigits u ≠ [] := fun e => by
  have h1 := Lib.decDigits_length u
  rw [e] at h1
  have h2 : 1 ≤ Lib.nDigits u := by
    rw [Lib.nDigits]
    split <;> omega
  simp at h1
  omega
theorem appU_spec {M M0 : Mem} {x : Lf} {l : List UInt8} (hb : Buf M x l M0) (u : Nat) (hu : u < 18446744073709551616) (hl : l.length ≤ 100000000) : XCalls Go.Proofs.Tryd.prog 63 [.l x, .l (.int .u64 u), .l (.int .i64 10)] M fun r M' =>
    ∃ id', (∀ j, id' ≤ j → M j = none) ∧ r = .l (.ms id' 0 (l ++ Lib.decDigits u).length) ∧ M' = M0.set id' (.cells 5 (byR (l ++ Lib.decDigits u)) 0) := by
  have hnd : (Lib.decDigits u).length ≤ 20 := by
    rw [Lib.decDigits_length]
    by_cases h0 : u < 10
    · rw [Lib.nDigits_small h0]; omega
    · have := Lib.numDigits_eq u (by omega) hu
      split at this <;> omega
  refine ⟨by kernel_rfl, fun g w vs hP hA hR => ?_⟩
  obtain ⟨hsz, hA⟩ := hA
  obtain ⟨sv, c1, c2, rfl⟩ : ∃ a b c, vs = #[a, b, c] := by
    obtain ⟨vl⟩ := vs
    match vl, hsz with
    | [a, b, c], _ => exact ⟨a, b, c, rfl⟩
  have h0 := hA 0 _ _ rfl rfl
  have h1 := hA 1 _ _ rfl rfl
  have h2 := hA 2 _ _ rfl rfl
  obtain rfl : c1 = .int .u64 u := by cases h1 with | l h => cases h; rfl
  obtain rfl : c2 = .int .i64 10 := by cases h2 with | l h => cases h; rfl
  have hlen : (l ++ Lib.decDigits u).length ≤ 1000000000 := by rw [List.length_append]; omega
  have hK : ∀ {tx : TypeId} {src : AV}, (∀ te, tiOf Go.Proofs.Tryd.prog 5 = some te → srcRows Go.Proofs.Tryd.prog M 96 tx 5 te src = some (byR (Lib.decDigits u))) → @appI Go.Proofs.Tryd.prog M 96 tx (.l x) src ⟨fun r M' =>
      ∃ id', (∀ j, id' ≤ j → M j = none) ∧ r = .l (.ms id' 0 (l ++ Lib.decDigits u).length) ∧ M' = M0.set id' (.cells 5 (byR (l ++ Lib.decDigits u)) 0)⟩ := fun hs => app_buf hb hs (decDigits_ne u) hlen fun id' hid => ⟨id', hid, rfl, rfl⟩
  by_cases hs : u < 100
  · refine appU_small u hs sv w ?_
    obtain ⟨c, w', g', v, M', hr, hk, he, hc, hrel⟩ := run_appendA (ty := 96) hP hR h0 (.l (.str ⟨(Lib.decDigits u).toArray⟩)) (N := newK M) (fun F hF => newK_pick hR hF) (hK (tx := 9) (src := .l (.str ⟨(Lib.decDigits u).toArray⟩)) fun te hte => by
      unfold srcRows
      rw [if_neg (by decide)]
      rw [ti_5] at hte
      cases hte
      simp only [ti_9]
      rfl)
    exact ⟨c, w', hr, c, v, g', M', rfl, hk, he, hc, hrel⟩
  · refine appU_big u (by omega) hu sv w (rel_pow hR hP) fun W hbel hcells => ?_
    obtain ⟨e1, hR1⟩ := rel_same hR hbel
    obtain ⟨e2, hR2⟩ := rel_frz_out hR1 (b0 := w.heap.size) (n := (Lib.decDigits u).length) (fun id x hx => by have := hR.lt id x hx; omega) (fun o ho => by
      have := hcells o (.int .u8 ((Lib.decDigits u)[o].toNat : Int)) (by simp [Lib.byteCells, ho])
      rw [addr_add, Nat.zero_add] at this
      exact ⟨_, this⟩)
    have e := e1.trans e2
    have hsrc := digits_conc (g := g) (w := W) hcells 24 (by omega)
    rw [← Lib.decDigits_length]
    obtain ⟨c, w', g', v, M', hr, hk, he, hc, hrel⟩ := run_appendA (ty := 96) (e2.P.trans hP) hR2 (h0.ev e) hsrc (N := newK M) (fun F hF => newK_pick hR2 hF) (hK (tx := 96) (src := .l (.sl (byR (Lib.decDigits u)))) fun te hte => by
      unfold srcRows
      rw [if_pos rfl]
      rw [ti_5] at hte
      cases hte
      exact if_pos fun r hr => by
        obtain ⟨x, -, rfl⟩ := List.mem_map.1 hr
        rfl)
    exact ⟨c, w', hr, c, v, g', M', rfl, hk, e.trans he, hc, hrel⟩
end Go.X
set_option linter.unusedVariables false
set_option linter.unusedSimpArgs false
set_option maxHeartbeats 20000000
set_option maxRecDepth 100000
namespace Go.X
open Go.Proofs.Tryd (prog)
open Go.RowKit

theorem Buf.set {M M0 : Mem} {x : Lf} {l : List UInt8} (h : Buf M x l M0) {i : Nat} (hi : ∀ j, i ≤ j → M j = none) (X : Blk) : Buf (M.set i X) x l (M0.set i X) := by
  cases h with
  | nil => exact .nil
  | ms h =>
    rename_i id
    have hlt := lt_of_bnd hi h
    have e : (M.del id).set i X = (M.set i X).del id := by
      funext k
      simp only [Mem.set_app, Mem.del_app]
      by_cases h1 : i = k
      · rw [if_pos h1, if_neg (by omega), if_pos h1]
      · rw [if_neg h1]
        by_cases h2 : id = k
        · rw [if_pos h2, if_pos h2]
        · rw [if_neg h2, if_neg h2, if_neg h1]
    rw [e]
    exact .ms (by rw [Mem.set_ne _ _ _ _ (by omega)]; exact h)
theorem Buf.bnd {M M0 : Mem} {x : Lf} {l : List UInt8} (h : Buf M x l M0) {i : Nat} (hi : ∀ j, i ≤ j → M j = none) : ∀ j, i ≤ j → M0 j = none := fun j hj => by
  cases hm : M0 j with
  | none => rfl
  | some bk => have := h.le _ _ hm; rw [hi j hj] at this; cases this
theorem wrap_u64 (x : Int) : IntKind.u64.wrap x = x % 18446744073709551616 := rfl
theorem wrap_u64_neg {n : Int} (h0 : -9223372036854775808 ≤ n) (hn : n < 0) : IntKind.u64.wrap (0 - IntKind.u64.wrap n) = (n.natAbs : Int) := by
  rw [wrap_u64]
  try rw [wrap_u64]
  omega
theorem wrap_u64_pos {n : Int} (h1 : n ≤ 9223372036854775807) (hn : ¬ n < 0) : IntKind.u64.wrap n = (n.toNat : Int) := by
  rw [wrap_u64]
  try rw [wrap_u64]
  omega
theorem appI_spec0 {M M0 : Mem} {x : Lf} {l : List UInt8} (hb : Buf M x l M0) (n : Int) (h0 : -9223372036854775808 ≤ n) (h1 : n ≤ 9223372036854775807) (hl : l.length ≤ 10000000) : XCalls Go.Proofs.Tryd.prog 58 [.l x, .l (.int .i64 n), .l (.int .i64 10)] M fun r M' =>
    ∃ id', (∀ j, id' ≤ j → M j = none) ∧ r = .l (.ms id' 0 (l ++ Lib.itoa n).length) ∧ M' = M0.set id' (.cells 5 (byR (l ++ Lib.itoa n)) 0) := by
  refine xcalls_intro (rs := [.tmp 6]) Go.Proofs.Tryd.func58 rfl (by kernel_rfl) rfl rfl (by kernel_rfl) (by simp) ?_
  simp -implicitDefEqProofs (maxSteps := 1000000) (disch := omega) only [↓xsP, ↓vc_seq, xsQ, xsT, xsR, xsD, ↓reduceIte, reduceCtorEq, eq_self, ne_eq, imp_self, forall_const, Nat.reduceEqDiff, Nat.reduceAdd, Nat.reduceSub, Nat.reduceMul, Nat.reduceLT, Nat.reduceLeDiff, Nat.reduceBEq, Nat.reduceDiv, Nat.reduceMod, Int.reduceToNat, Int.reduceNeg, Int.reduceAdd, Int.reduceSub, Int.reduceMul, Int.reduceEq, Int.reduceNe, Int.reduceLT, Int.reduceLE, Int.reduceGT, Int.reduceGE]
  refine condI_prop (fun hn => ?_) (fun hn => ?_)
  · have e : Lib.itoa n = [45] ++ Lib.decDigits n.natAbs := by rw [Lib.itoa, if_pos hn]; rfl
    have hw := wrap_u64_neg h0 hn
    simp -implicitDefEqProofs (maxSteps := 1000000) (disch := omega) only [↓xsP, ↓vc_seq, xsQ, xsT, xsR, xsD, ↓reduceIte, reduceCtorEq, eq_self, ne_eq, imp_self, forall_const, Nat.reduceEqDiff, Nat.reduceAdd, Nat.reduceSub, Nat.reduceMul, Nat.reduceLT, Nat.reduceLeDiff, Nat.reduceBEq, Nat.reduceDiv, Nat.reduceMod, Int.reduceToNat, Int.reduceNeg, Int.reduceAdd, Int.reduceSub, Int.reduceMul, Int.reduceEq, Int.reduceNe, Int.reduceLT, Int.reduceLE, Int.reduceGT, Int.reduceGE]
    refine newI_intro fun idn hidn => ?_
    simp -implicitDefEqProofs (maxSteps := 1000000) (disch := omega) only [↓xsP, ↓vc_seq, xsQ, xsT, xsR, xsD, ↓reduceIte, reduceCtorEq, eq_self, ne_eq, imp_self, forall_const, Nat.reduceEqDiff, Nat.reduceAdd, Nat.reduceSub, Nat.reduceMul, Nat.reduceLT, Nat.reduceLeDiff, Nat.reduceBEq, Nat.reduceDiv, Nat.reduceMod, Int.reduceToNat, Int.reduceNeg, Int.reduceAdd, Int.reduceSub, Int.reduceMul, Int.reduceEq, Int.reduceNe, Int.reduceLT, Int.reduceLE, Int.reduceGT, Int.reduceGE]
    refine app_buf (hb.set hidn _) (bs := [45]) (fun te hte => ?_) (List.cons_ne_nil _ _) (by rw [List.length_append]; simp only [List.length_cons, List.length_nil]; omega) fun id2 hid2 => ?_
    · rw [ti_5] at hte
      cases hte
      unfold srcRows
      rw [if_pos rfl]
      simp only [Mem.set_eq]
      rw [if_pos ⟨trivial, by simp⟩]
      rfl
    obtain ⟨hlt, hid2'⟩ := bnd_new hid2
    have hl2 : (l ++ [45]).length ≤ 100000000 := by rw [List.length_append]; simp only [List.length_cons, List.length_nil]; omega
    obtain ⟨l2, hl2e⟩ : ∃ l2 : List UInt8, l ++ [45] = l2 := ⟨_, rfl⟩
    rw [hl2e] at hl2 ⊢
    simp -implicitDefEqProofs (maxSteps := 1000000) (disch := omega) only [↓xsP, ↓vc_seq, xsQ, xsT, xsR, xsD, ↓reduceIte, reduceCtorEq, eq_self, ne_eq, imp_self, forall_const, Nat.reduceEqDiff, Nat.reduceAdd, Nat.reduceSub, Nat.reduceMul, Nat.reduceLT, Nat.reduceLeDiff, Nat.reduceBEq, Nat.reduceDiv, Nat.reduceMod, Int.reduceToNat, Int.reduceNeg, Int.reduceAdd, Int.reduceSub, Int.reduceMul, Int.reduceEq, Int.reduceNe, Int.reduceLT, Int.reduceLE, Int.reduceGT, Int.reduceGE, hw]
    refine callI_of ((appU_spec (.ms (l := l2) (Mem.set_eq _ id2 _)) n.natAbs (by omega) hl2).mono ?_)
    rintro _ _ ⟨id3, hid3, rfl, rfl⟩
    obtain ⟨hlt3, hid3'⟩ := bnd_new hid3
    obtain ⟨hlt4, hid3''⟩ := bnd_new hid3'
    simp -implicitDefEqProofs (maxSteps := 1000000) (disch := omega) only [↓xsP, ↓vc_seq, xsQ, xsT, xsR, xsD, ↓reduceIte, reduceCtorEq, eq_self, ne_eq, imp_self, forall_const, Nat.reduceEqDiff, Nat.reduceAdd, Nat.reduceSub, Nat.reduceMul, Nat.reduceLT, Nat.reduceLeDiff, Nat.reduceBEq, Nat.reduceDiv, Nat.reduceMod, Int.reduceToNat, Int.reduceNeg, Int.reduceAdd, Int.reduceSub, Int.reduceMul, Int.reduceEq, Int.reduceNe, Int.reduceLT, Int.reduceLE, Int.reduceGT, Int.reduceGE]
    have hM0 := hb.bnd hidn
    refine fin_ok (M' := M0.set id3 (.cells 5 (byR (l ++ Lib.itoa n)) 0)) ?_ ⟨id3, fun j hj => hid2' j (by omega), by rw [e, ← List.append_assoc, hl2e], rfl⟩
    rw [e, ← List.append_assoc, hl2e]
    intro k bk hk
    rw [Mem.set_app] at hk ⊢
    by_cases h : id3 = k
    · rw [if_pos h] at hk ⊢
      exact hk
    · rw [if_neg h] at hk ⊢
      have := lt_of_bnd hM0 hk
      rw [Mem.del_ne _ _ _ (by omega), Mem.set_ne _ _ _ _ (by omega), Mem.set_ne _ _ _ _ (by omega)]
      exact hk
  · have e : Lib.itoa n = Lib.decDigits n.toNat := by rw [Lib.itoa, if_neg hn]
    have hw := wrap_u64_pos h1 hn
    simp -implicitDefEqProofs (maxSteps := 1000000) (disch := omega) only [↓xsP, ↓vc_seq, xsQ, xsT, xsR, xsD, ↓reduceIte, reduceCtorEq, eq_self, ne_eq, imp_self, forall_const, Nat.reduceEqDiff, Nat.reduceAdd, Nat.reduceSub, Nat.reduceMul, Nat.reduceLT, Nat.reduceLeDiff, Nat.reduceBEq, Nat.reduceDiv, Nat.reduceMod, Int.reduceToNat, Int.reduceNeg, Int.reduceAdd, Int.reduceSub, Int.reduceMul, Int.reduceEq, Int.reduceNe, Int.reduceLT, Int.reduceLE, Int.reduceGT, Int.reduceGE, hw]
    refine callI_of ((appU_spec hb n.toNat (by omega) (by omega)).mono ?_)
    rintro _ _ ⟨id3, hid3, rfl, rfl⟩
    simp -implicitDefEqProofs (maxSteps := 1000000) (disch := omega) only [↓xsP, ↓vc_seq, xsQ, xsT, xsR, xsD, ↓reduceIte, reduceCtorEq, eq_self, ne_eq, imp_self, forall_const, Nat.reduceEqDiff, Nat.reduceAdd, Nat.reduceSub, Nat.reduceMul, Nat.reduceLT, Nat.reduceLeDiff, Nat.reduceBEq, Nat.reduceDiv, Nat.reduceMod, Int.reduceToNat, Int.reduceNeg, Int.reduceAdd, Int.reduceSub, Int.reduceMul, Int.reduceEq, Int.reduceNe, Int.reduceLT, Int.reduceLE, Int.reduceGT, Int.reduceGE]
    exact fin_ok (Mem.le_refl _) ⟨id3, hid3, by rw [e], by rw [e]⟩
theorem appI_spec {M M0 : Mem} {x : Lf} {l : List UInt8} (hb : Buf M x l M0) (n : Int) (h0 : -9223372036854775808 ≤ n) (h1 : n ≤ 9223372036854775807) (hl : l.length ≤ 10000000) : XCalls Go.Proofs.Tryd.prog 49 [.l x, .l (.int .i64 n), .l (.int .i64 10)] M fun r M' =>
    ∃ id', (∀ j, id' ≤ j → M j = none) ∧ r = .l (.ms id' 0 (l ++ Lib.itoa n).length) ∧ M' = M0.set id' (.cells 5 (byR (l ++ Lib.itoa n)) 0) := by
  refine xcalls_intro (rs := [.tmp 6]) Go.Proofs.Tryd.func49 rfl (by kernel_rfl) rfl rfl (by kernel_rfl) (by simp) ?_
  simp -implicitDefEqProofs (maxSteps := 1000000) (disch := omega) only [↓xsP, ↓vc_seq, xsQ, xsT, xsR, xsD, ↓reduceIte, reduceCtorEq, eq_self, ne_eq, imp_self, forall_const, Nat.reduceEqDiff, Nat.reduceAdd, Nat.reduceSub, Nat.reduceMul, Nat.reduceLT, Nat.reduceLeDiff, Nat.reduceBEq, Nat.reduceDiv, Nat.reduceMod, Int.reduceToNat, Int.reduceNeg, Int.reduceAdd, Int.reduceSub, Int.reduceMul, Int.reduceEq, Int.reduceNe, Int.reduceLT, Int.reduceLE, Int.reduceGT, Int.reduceGE]
  refine callI_of ((appI_spec0 hb n h0 h1 hl).mono ?_)
  rintro _ _ ⟨id3, hid3, rfl, rfl⟩
  simp -implicitDefEqProofs (maxSteps := 1000000) (disch := omega) only [↓xsP, ↓vc_seq, xsQ, xsT, xsR, xsD, ↓reduceIte, reduceCtorEq, eq_self, ne_eq, imp_self, forall_const, Nat.reduceEqDiff, Nat.reduceAdd, Nat.reduceSub, Nat.reduceMul, Nat.reduceLT, Nat.reduceLeDiff, Nat.reduceBEq, Nat.reduceDiv, Nat.reduceMod, Int.reduceToNat, Int.reduceNeg, Int.reduceAdd, Int.reduceSub, Int.reduceMul, Int.reduceEq, Int.reduceNe, Int.reduceLT, Int.reduceLE, Int.reduceGT, Int.reduceGE]
  exact fin_ok (Mem.le_refl _) ⟨id3, hid3, rfl, rfl⟩
def txt (l : List UInt8) : Lf := .str ⟨l.toArray⟩
end Go.X
set_option linter.unusedVariables false
set_option linter.unusedSimpArgs false
set_option maxHeartbeats 20000000
set_option maxRecDepth 100000
namespace Go.X
open Go.Proofs.Tryd (prog)
open Go.RowKit

theorem ArgsR.rsd {g : Gh} {w : World} {args : List AV} {vs : Array Value} (r : Nat → Prop) (h : ArgsR g w args vs) : ArgsR (g.rsd r) w args vs := ⟨h.1, fun i x v a b => (h.2 i x v a b).rsd r⟩
theorem updE_app (M : Mem) (a b : Eff) : updE M (a ++ b) = updE (updE M a) b := by
  induction a generalizing M with
  | nil => rfl
  | cons p a ih =>
    obtain ⟨x, o⟩ := p
    cases o with
    | none => rw [List.cons_append, updE_none, updE_none, ih]
    | some b' => rw [List.cons_append, updE_some, updE_some, ih]
theorem updE_dels (M : Mem) (ds : List Nat) : updE M (ds.map fun d => (d, none)) = delL M ds := by
  induction ds generalizing M with
  | nil => rfl
  | cons d ds ih => rw [List.map_cons, updE_none, delL_cons, ih]
theorem delL_none {M : Mem} {ds : List Nat} {i : Nat} (h : M i = none) : delL M ds i = none := by
  cases hm : delL M ds i with
  | none => rfl
  | some b => have := (delL_some hm).2; rw [h] at this; cases this
theorem wcall_new {P : Program} {f : FuncId} {args : List AV} {M : Mem} {nid : Nat} {C : AV → Eff → Prop} (n : Nat) (B : Blk) (ds : List Nat) (h : ∀ M', M.le M' → XCalls P f args M' fun r M'' => ∃ id', (∀ j, id' ≤ j → M' j = none) ∧ r = .l (.ms id' 0 n) ∧ ((delL M' ds).set id' B).le M'')
    (hc : C (.l (.ms nid 0 n)) ((ds.map fun d => (d, none)) ++ [(nid, some B)])) : @wcallI P f args M nid ⟨C⟩ := by
  refine ⟨_, _, fun M' hle hn => ⟨(h M' hle).1, fun g w vs hP hA hR hN => ?_⟩, hc⟩
  obtain ⟨id, h1, h2, h3, h4⟩ := hN (fun i => i = nid) rfl
  subst h4
  have hR1 := hR.rsd (fun i => g.res i ∨ i = id) (by
    obtain ⟨m, hm⟩ := hR.fin
    refine ⟨max m (id + 1), fun i hi => ?_⟩
    rintro (h | h)
    · exact (hm i (by omega)).2.2 h
    · omega)
  refine ((h M' hle).2 (g.rsd fun i => g.res i ∨ i = id) w vs hP (hA.rsd _) hR1).mono ?_
  rintro e w' ⟨rv, v, g', M'', he, ⟨id', hid, rfl, hle2⟩, hev, hcv, hrel⟩
  have hfree : g'.blk id = none := hev.rsv id (.inr rfl) h1
  have hrel2 : Rel (g'.rsd g.res) ((delL M' ds).set id' B) w' := (hrel.rsd g.res (by
    obtain ⟨m, hm⟩ := hR.fin
    exact ⟨m, fun i hi => (hm i hi).2.2⟩)).le hle2
  have hev2 : Ev g w (g'.rsd g.res) w' := ⟨hev.w0, hev.P, hev.blk, hev.fz, hev.cell, rfl, fun i hr hb => hev.rsv i (.inl hr) hb⟩
  cases hcv with
  | l hcv =>
    cases hcv with
    | ms hx hl1 hl2 =>
      rename_i b sz cr cap
      have hne : id' ≠ id := fun e => by rw [e, hfree] at hx; cases hx
      obtain ⟨e3, r3⟩ := rel_rename hrel2 (id := id') (id' := id) hfree (by rw [Mem.set_ne _ _ _ _ hne]; exact delL_none h2) h3 hx (Mem.set_eq _ _ _)
      refine ⟨_, _, _, _, he, ⟨rfl, Mem.le_refl _⟩, hev2.trans e3, .l (.ms (Gh.put_same _ _ _) hl1 hl2), r3.le ?_⟩
      rw [updE_app, updE_dels, updE_some, updE_nil]
      intro k bk hk
      rw [Mem.set_app] at hk ⊢
      by_cases h : id = k
      · rw [if_pos h] at hk ⊢
        exact hk
      · rw [if_neg h] at hk ⊢
        have hk' : id' ≠ k := fun e => by
          subst e
          rw [delL_none (hid _ (Nat.le_refl _))] at hk
          cases hk
        rw [Mem.del_ne _ _ _ hk', Mem.set_ne _ _ _ _ hk']
        exact hk

/-! ### the text of a state -/
def prTxt (p : Pr) : List UInt8 := 32 :: Lib.itoa p.key ++ 58 :: Lib.itoa p.val
def stTxt (d : Int) (s : List Pr) : List UInt8 := Lib.itoa d ++ s.flatMap prTxt
def IntOk' (n : Int) : Prop := -9223372036854775808 ≤ n ∧ n ≤ 9223372036854775807
def AllOk (s : List Pr) : Prop := ∀ p ∈ s, IntOk' p.key ∧ IntOk' p.val
theorem prTxt_len {p : Pr} (h : IntOk' p.key ∧ IntOk' p.val) : (prTxt p).length ≤ 50 := by
  have h1 := Lib.itoa_length_le p.key h.1.1 h.1.2
  have h2 := Lib.itoa_length_le p.val h.2.1 h.2.2
  simp only [prTxt, List.length_append, List.length_cons]
  omega
theorem bytes_byR : ∀ l : List UInt8, bytesOf (byR l) = some l
  | [] => rfl
  | b :: l => by
    have ih := bytes_byR l
    rw [byR] at ih ⊢
    have hb : b.toNat < 256 := b.toNat_lt
    rw [List.map_cons, bytesOf, if_pos (by omega), ih, Option.map_some]
    congr 2
    rw [Int.toNat_natCast]
    exact UInt8.ofNat_toNat
theorem state_spec (d : Int) (hd : IntOk' d) (s : List Pr) (hs : AllOk s) (hl : s.length ≤ 100000) (id : Nat) (M : Mem) (hM : M id = some (mapB s)) :
    XCalls Go.Proofs.Tryd.prog 34 [.l (.int .i64 d), .l (.ptr id 0 0)] M fun r M' => r = .l (txt (stTxt d s)) ∧ M' = M := by
  refine xcalls_intro (rs := [.tmp 4]) Go.Proofs.Tryd.func34 rfl (by kernel_rfl) rfl rfl (by kernel_rfl) (by simp) ?_
  simp -implicitDefEqProofs (maxSteps := 1000000) (disch := omega) only [↓xsP, ↓vc_seq, xsQ, xsT, xsR, xsD, ↓reduceIte, reduceCtorEq, eq_self, ne_eq, imp_self, forall_const, Nat.reduceEqDiff, Nat.reduceAdd, Nat.reduceSub, Nat.reduceMul, Nat.reduceLT, Nat.reduceLeDiff, Nat.reduceBEq, Nat.reduceDiv, Nat.reduceMod, Int.reduceToNat, Int.reduceNeg, Int.reduceAdd, Int.reduceSub, Int.reduceMul, Int.reduceEq, Int.reduceNe, Int.reduceLT, Int.reduceLE, Int.reduceGT, Int.reduceGE]
  refine callI_of ((appI_spec .nil d hd.1 hd.2 (by simp)).mono ?_)
  rintro _ _ ⟨id5, hid5, rfl, rfl⟩
  have k5 := lt_of_bnd hid5 hM
  simp -implicitDefEqProofs (maxSteps := 1000000) (disch := omega) only [↓xsP, ↓vc_seq, xsQ, xsT, xsR, xsD, ↓reduceIte, reduceCtorEq, eq_self, ne_eq, imp_self, forall_const, Nat.reduceEqDiff, Nat.reduceAdd, Nat.reduceSub, Nat.reduceMul, Nat.reduceLT, Nat.reduceLeDiff, Nat.reduceBEq, Nat.reduceDiv, Nat.reduceMod, Int.reduceToNat, Int.reduceNeg, Int.reduceAdd, Int.reduceSub, Int.reduceMul, Int.reduceEq, Int.reduceNe, Int.reduceLT, Int.reduceLE, Int.reduceGT, Int.reduceGE]
  refine call_of (pairs_spec s (by omega) id _ (by rw [Mem.set_ne _ _ _ _ (by omega)]; exact hM)) ?_
  simp -implicitDefEqProofs (maxSteps := 1000000) (disch := omega) only [↓xsP, ↓vc_seq, xsQ, xsT, xsR, xsD, ↓reduceIte, reduceCtorEq, eq_self, ne_eq, imp_self, forall_const, Nat.reduceEqDiff, Nat.reduceAdd, Nat.reduceSub, Nat.reduceMul, Nat.reduceLT, Nat.reduceLeDiff, Nat.reduceBEq, Nat.reduceDiv, Nat.reduceMod, Int.reduceToNat, Int.reduceNeg, Int.reduceAdd, Int.reduceSub, Int.reduceMul, Int.reduceEq, Int.reduceNe, Int.reduceLT, Int.reduceLE, Int.reduceGT, Int.reduceGE]
  refine loopI_of (xloop (by kernel_rfl) (fun k fr M2 => ∃ (i idb : Nat) (l : List UInt8), i ≤ s.length ∧ k = s.length - i ∧ (∀ j, idb ≤ j → M j = none) ∧ l = Lib.itoa d ++ (s.take i).flatMap prTxt ∧ l.length ≤ 30 + 50 * i ∧ fr 5 = .l (.ms idb 0 l.length) ∧ fr 11 = .l (.sl (s.map Pr.row)) ∧ fr 12 = .l (.int .i64 s.length) ∧ fr 13 = .l (.int .i64 i) ∧ M2 = M.set idb (.cells 5 (byR l) 0)) s.length ?_ ?_)
  · exact ⟨0, id5, Lib.itoa d, Nat.zero_le _, rfl, hid5, by simp, by have := Lib.itoa_length_le d hd.1 hd.2; omega, by simp -implicitDefEqProofs (maxSteps := 1000000) (disch := omega) only [↓xsP, ↓vc_seq, xsQ, xsT, xsR, xsD, ↓reduceIte, reduceCtorEq, eq_self, ne_eq, imp_self, forall_const, Nat.reduceEqDiff, Nat.reduceAdd, Nat.reduceSub, Nat.reduceMul, Nat.reduceLT, Nat.reduceLeDiff, Nat.reduceBEq, Nat.reduceDiv, Nat.reduceMod, Int.reduceToNat, Int.reduceNeg, Int.reduceAdd, Int.reduceSub, Int.reduceMul, Int.reduceEq, Int.reduceNe, Int.reduceLT, Int.reduceLE, Int.reduceGT, Int.reduceGE], by simp -implicitDefEqProofs (maxSteps := 1000000) (disch := omega) only [↓xsP, ↓vc_seq, xsQ, xsT, xsR, xsD, ↓reduceIte, reduceCtorEq, eq_self, ne_eq, imp_self, forall_const, Nat.reduceEqDiff, Nat.reduceAdd, Nat.reduceSub, Nat.reduceMul, Nat.reduceLT, Nat.reduceLeDiff, Nat.reduceBEq, Nat.reduceDiv, Nat.reduceMod, Int.reduceToNat, Int.reduceNeg, Int.reduceAdd, Int.reduceSub, Int.reduceMul, Int.reduceEq, Int.reduceNe, Int.reduceLT, Int.reduceLE, Int.reduceGT, Int.reduceGE], by simp -implicitDefEqProofs (maxSteps := 1000000) (disch := omega) only [↓xsP, ↓vc_seq, xsQ, xsT, xsR, xsD, ↓reduceIte, reduceCtorEq, eq_self, ne_eq, imp_self, forall_const, Nat.reduceEqDiff, Nat.reduceAdd, Nat.reduceSub, Nat.reduceMul, Nat.reduceLT, Nat.reduceLeDiff, Nat.reduceBEq, Nat.reduceDiv, Nat.reduceMod, Int.reduceToNat, Int.reduceNeg, Int.reduceAdd, Int.reduceSub, Int.reduceMul, Int.reduceEq, Int.reduceNe, Int.reduceLT, Int.reduceLE, Int.reduceGT, Int.reduceGE], by simp -implicitDefEqProofs (maxSteps := 1000000) (disch := omega) only [↓xsP, ↓vc_seq, xsQ, xsT, xsR, xsD, ↓reduceIte, reduceCtorEq, eq_self, ne_eq, imp_self, forall_const, Nat.reduceEqDiff, Nat.reduceAdd, Nat.reduceSub, Nat.reduceMul, Nat.reduceLT, Nat.reduceLeDiff, Nat.reduceBEq, Nat.reduceDiv, Nat.reduceMod, Int.reduceToNat, Int.reduceNeg, Int.reduceAdd, Int.reduceSub, Int.reduceMul, Int.reduceEq, Int.reduceNe, Int.reduceLT, Int.reduceLE, Int.reduceGT, Int.reduceGE, Int.cast_ofNat_Int], rfl⟩
  · clear k5 hid5 id5
    rintro k fr M2 ⟨i, idb, l, hi, rfl, hidb, hl2, hll, f5, f11, f12, f13, rfl⟩
    have kb := lt_of_bnd hidb hM
    simp -implicitDefEqProofs (maxSteps := 1000000) (disch := omega) only [↓xsP, ↓vc_seq, xsQ, xsT, xsR, xsD, ↓reduceIte, reduceCtorEq, eq_self, ne_eq, imp_self, forall_const, Nat.reduceEqDiff, Nat.reduceAdd, Nat.reduceSub, Nat.reduceMul, Nat.reduceLT, Nat.reduceLeDiff, Nat.reduceBEq, Nat.reduceDiv, Nat.reduceMod, Int.reduceToNat, Int.reduceNeg, Int.reduceAdd, Int.reduceSub, Int.reduceMul, Int.reduceEq, Int.reduceNe, Int.reduceLT, Int.reduceLE, Int.reduceGT, Int.reduceGE, f5, f11, f12, f13]
    refine condI_prop (fun hlt => ?_) (fun hlt => ?_)
    · have hil : i < s.length := by omega
      obtain ⟨p, hp⟩ : ∃ p, s.getD i default = p := ⟨_, rfl⟩
      have hpo := hs _ (getD_mem' s default hil)
      rw [hp] at hpo
      have hpt := prTxt_len hpo
      simp -implicitDefEqProofs (maxSteps := 1000000) (disch := omega) only [↓xsP, ↓vc_seq, xsQ, xsT, xsR, xsD, ↓reduceIte, reduceCtorEq, eq_self, ne_eq, imp_self, forall_const, Nat.reduceEqDiff, Nat.reduceAdd, Nat.reduceSub, Nat.reduceMul, Nat.reduceLT, Nat.reduceLeDiff, Nat.reduceBEq, Nat.reduceDiv, Nat.reduceMod, Int.reduceToNat, Int.reduceNeg, Int.reduceAdd, Int.reduceSub, Int.reduceMul, Int.reduceEq, Int.reduceNe, Int.reduceLT, Int.reduceLE, Int.reduceGT, Int.reduceGE, f5, f11, f12, f13, hp]
      refine newI_intro fun id7 hid7 => ?_
      obtain ⟨k7, hid7M⟩ := bnd_new hid7
      simp -implicitDefEqProofs (maxSteps := 1000000) (disch := omega) only [↓xsP, ↓vc_seq, xsQ, xsT, xsR, xsD, ↓reduceIte, reduceCtorEq, eq_self, ne_eq, imp_self, forall_const, Nat.reduceEqDiff, Nat.reduceAdd, Nat.reduceSub, Nat.reduceMul, Nat.reduceLT, Nat.reduceLeDiff, Nat.reduceBEq, Nat.reduceDiv, Nat.reduceMod, Int.reduceToNat, Int.reduceNeg, Int.reduceAdd, Int.reduceSub, Int.reduceMul, Int.reduceEq, Int.reduceNe, Int.reduceLT, Int.reduceLE, Int.reduceGT, Int.reduceGE, f5, f11, f12, f13, hp]
      have hM7 : ((M.set idb (.cells 5 (byR l) 0)).set id7 (.cells 32 [[.int .i64 p.key, .int .i64 p.val]] 0)) id7 = some (.cells 32 [[.int .i64 p.key, .int .i64 p.val]] 0) := Mem.set_eq _ _ _
      have hMb : ((M.set idb (.cells 5 (byR l) 0)).set id7 (.cells 32 [[.int .i64 p.key, .int .i64 p.val]] 0)) idb = some (.cells 5 (byR l) 0) := by rw [Mem.set_ne _ _ _ _ (by omega), Mem.set_eq]
      have hMM : ∀ k bk, M k = some bk → ((M.set idb (.cells 5 (byR l) 0)).set id7 (.cells 32 [[.int .i64 p.key, .int .i64 p.val]] 0)) k = some bk := fun k bk hk => by
        have := lt_of_bnd hidb hk
        rw [Mem.set_ne _ _ _ _ (by omega), Mem.set_ne _ _ _ _ (by omega)]
        exact hk
      generalize (M.set idb (.cells 5 (byR l) 0)).set id7 (.cells 32 [[.int .i64 p.key, .int .i64 p.val]] 0) = N at hM7 hMb hMM ⊢
      refine xwrite (fun n0 => [ (2, idb), (5, n0 + 2)]) [2, 5] [1, 2, 5] [[], [], [], [2, 1], [2, 1], [], []] (by kernel_rfl) (by kernel_rfl) (by kernel_rfl) (by kernel_rfl) (fun n0 hn0 => ⟨rfl, ?_, ?_⟩)
      · exact TOk_cons (.inl (lt_of_bnd hn0 hMb)) (TOk_cons (.inr ⟨2, by decide, ⟨by decide, by decide⟩, rfl⟩) (TOk_nil _ _))
      · have z1 := lt_of_bnd hn0 hM7
        have z2 := lt_of_bnd hn0 hMb
        simp -implicitDefEqProofs (maxSteps := 1000000) (disch := omega) only [↓xsP, ↓vc_seq, xsQ, xsT, xsR, xsD, ↓reduceIte, reduceCtorEq, eq_self, ne_eq, imp_self, forall_const, Nat.reduceEqDiff, Nat.reduceAdd, Nat.reduceSub, Nat.reduceMul, Nat.reduceLT, Nat.reduceLeDiff, Nat.reduceBEq, Nat.reduceDiv, Nat.reduceMod, Int.reduceToNat, Int.reduceNeg, Int.reduceAdd, Int.reduceSub, Int.reduceMul, Int.reduceEq, Int.reduceNe, Int.reduceLT, Int.reduceLE, Int.reduceGT, Int.reduceGE, f5, f11, f12, f13, hM7, hMb]
        have hb1 : (l ++ [32]).length ≤ 9000000 := by rw [List.length_append]; simp only [List.length_cons, List.length_nil]; omega
        refine ⟨.inl (by decide), ?_⟩
        refine wapp_ms _ _ _ _ _ 5 _ _ ti_96 rfl ti_5 (by kernel_rfl) (by decide) idb l.length _ (rows := byR l) (keep := 0) (byR [32]) ?_ ?_ (by rw [byR_len]; exact Nat.le_refl _) (Nat.zero_le _) ?_ ?_ ?_
        · rw [Mem.set_ne _ _ _ _ (by omega)]
          exact hMb
        · unfold srcRows
          rw [if_pos rfl]
          simp only [Mem.set_eq]
          exact if_pos ⟨trivial, by simp⟩
        · rw [byR_len]
          show (l.length + 1) * 1 ≤ _
          omega
        · show l.length + 1 ≤ _
          omega
        rw [List.take_of_length_le (by rw [byR_len]; exact Nat.le_refl _), ← byR_app, show l.length + (byR [32]).length = (l ++ [32]).length by simp [byR]]
        obtain ⟨l1, hl1⟩ : ∃ l1, l ++ [32] = l1 := ⟨_, rfl⟩
        rw [hl1] at hb1 ⊢
        simp -implicitDefEqProofs (maxSteps := 1000000) (disch := omega) only [↓xsP, ↓vc_seq, xsQ, xsT, xsR, xsD, ↓reduceIte, reduceCtorEq, eq_self, ne_eq, imp_self, forall_const, Nat.reduceEqDiff, Nat.reduceAdd, Nat.reduceSub, Nat.reduceMul, Nat.reduceLT, Nat.reduceLeDiff, Nat.reduceBEq, Nat.reduceDiv, Nat.reduceMod, Int.reduceToNat, Int.reduceNeg, Int.reduceAdd, Int.reduceSub, Int.reduceMul, Int.reduceEq, Int.reduceNe, Int.reduceLT, Int.reduceLE, Int.reduceGT, Int.reduceGE, f5, f11, f12, f13, hM7, hMb]
        refine ⟨.inl (by decide), ?_⟩
        obtain ⟨l2, hl2e⟩ : ∃ l2, l1 ++ Lib.itoa p.key = l2 := ⟨_, rfl⟩
        have hk1 := Lib.itoa_length_le p.key hpo.1.1 hpo.1.2
        have hk2 := Lib.itoa_length_le p.val hpo.2.1 hpo.2.2
        have hb2 : l2.length ≤ 9000000 := by
          rw [← hl2e, ← hl1, List.length_append, List.length_append]
          simp only [List.length_cons, List.length_nil]
          omega
        refine wcall_new l2.length (.cells 5 (byR l2) 0) [n0 + 2] (fun M' hle => (appI_spec (.ms (l := l1) (hle _ _ (Mem.set_eq _ _ _))) p.key hpo.1.1 hpo.1.2 (by omega)).mono ?_) ?_
        · rintro _ _ ⟨id', hid', rfl, rfl⟩
          rw [hl2e]
          exact ⟨id', hid', rfl, Mem.le_refl _⟩
        simp -implicitDefEqProofs (maxSteps := 1000000) (disch := omega) only [↓xsP, ↓vc_seq, xsQ, xsT, xsR, xsD, ↓reduceIte, reduceCtorEq, eq_self, ne_eq, imp_self, forall_const, Nat.reduceEqDiff, Nat.reduceAdd, Nat.reduceSub, Nat.reduceMul, Nat.reduceLT, Nat.reduceLeDiff, Nat.reduceBEq, Nat.reduceDiv, Nat.reduceMod, Int.reduceToNat, Int.reduceNeg, Int.reduceAdd, Int.reduceSub, Int.reduceMul, Int.reduceEq, Int.reduceNe, Int.reduceLT, Int.reduceLE, Int.reduceGT, Int.reduceGE, f5, f11, f12, f13, hM7, hMb]
        refine ⟨.inl (by decide), ?_⟩
        have key : ∀ X Y Z : Blk, ∃ N5, N5 = (((((N.set (n0 + 1) X).del idb).set (n0 + 2) Y).del (n0 + 2)).set (n0 + 5) Z) ∧ N5 id7 = some (.cells 32 [[.int .i64 p.key, .int .i64 p.val]] 0) ∧ N5 (n0 + 5) = some Z ∧ ∀ k bk, M k = some bk → N5 k = some bk := fun X Y Z => by
          refine ⟨_, rfl, ?_, Mem.set_eq _ _ _, fun k bk hk => ?_⟩
          · rw [Mem.set_ne _ _ _ _ (by omega), Mem.del_ne _ _ _ (by omega), Mem.set_ne _ _ _ _ (by omega), Mem.del_ne _ _ _ (by omega), Mem.set_ne _ _ _ _ (by omega)]
            exact hM7
          · have h1 := lt_of_bnd hidb hk
            have h2 := lt_of_bnd hn0 (hMM _ _ hk)
            rw [Mem.set_ne _ _ _ _ (by omega), Mem.del_ne _ _ _ (by omega), Mem.set_ne _ _ _ _ (by omega), Mem.del_ne _ _ _ (by omega), Mem.set_ne _ _ _ _ (by omega)]
            exact hMM _ _ hk
        obtain ⟨N5, eN5, hN7, hNb, hNM⟩ := key (.cells 5 [[.int .u8 32]] 0) (.cells 5 (byR l1) 0) (.cells 5 (byR l2) 0)
        rw [← eN5]
        obtain ⟨idc, hidc⟩ : ∃ idc, idc = n0 + 5 := ⟨_, rfl⟩
        have hMc : M idc = none := by
          rw [hidc]
          cases hm : M (n0 + 5) with
          | none => rfl
          | some bk => have := hMM _ _ hm; rw [hn0 _ (by omega)] at this; cases this
        rw [← hidc] at hNb
        rw [← hidc]
        have hl2l : l2.length ≤ l.length + 25 := by
          rw [← hl2e, ← hl1, List.length_append, List.length_append]
          simp only [List.length_cons, List.length_nil]
          omega
        have hl2t : l2 = l ++ 32 :: Lib.itoa p.key := by rw [← hl2e, ← hl1, List.append_assoc]; rfl
        clear eN5 hM7 hMb hMM hn0 z1 z2 key hidc hl1 hb1
        refine xwrite (fun n0 => [ (2, idc), (5, n0 + 2)]) [2, 5] [1, 2, 5] [[], [], [], [2, 1], [2, 1], [], []] (by kernel_rfl) (by kernel_rfl) (by kernel_rfl) (by kernel_rfl) (fun n0 hn0 => ⟨rfl, ?_, ?_⟩)
        · exact TOk_cons (.inl (lt_of_bnd hn0 hNb)) (TOk_cons (.inr ⟨2, by decide, ⟨by decide, by decide⟩, rfl⟩) (TOk_nil _ _))
        · have z1 := lt_of_bnd hn0 hN7
          have z2 := lt_of_bnd hn0 hNb
          have n7c := ne_ty hN7 hNb (by decide)
          simp -implicitDefEqProofs (maxSteps := 1000000) (disch := omega) only [↓xsP, ↓vc_seq, xsQ, xsT, xsR, xsD, ↓reduceIte, reduceCtorEq, eq_self, ne_eq, imp_self, forall_const, Nat.reduceEqDiff, Nat.reduceAdd, Nat.reduceSub, Nat.reduceMul, Nat.reduceLT, Nat.reduceLeDiff, Nat.reduceBEq, Nat.reduceDiv, Nat.reduceMod, Int.reduceToNat, Int.reduceNeg, Int.reduceAdd, Int.reduceSub, Int.reduceMul, Int.reduceEq, Int.reduceNe, Int.reduceLT, Int.reduceLE, Int.reduceGT, Int.reduceGE, f11, f12, f13, hN7, hNb]
          have hb3 : (l2 ++ [58]).length ≤ 9000001 := by rw [List.length_append]; simp only [List.length_cons, List.length_nil]; omega
          refine ⟨.inl (by decide), ?_⟩
          refine wapp_ms _ _ _ _ _ 5 _ _ ti_96 rfl ti_5 (by kernel_rfl) (by decide) idc l2.length _ (rows := byR l2) (keep := 0) (byR [58]) ?_ ?_ (by rw [byR_len]; exact Nat.le_refl _) (Nat.zero_le _) ?_ ?_ ?_
          · rw [Mem.set_ne _ _ _ _ (by omega)]
            exact hNb
          · unfold srcRows
            rw [if_pos rfl]
            simp only [Mem.set_eq]
            exact if_pos ⟨trivial, by simp⟩
          · rw [byR_len]
            show (l2.length + 1) * 1 ≤ _
            omega
          · show l2.length + 1 ≤ _
            omega
          rw [List.take_of_length_le (by rw [byR_len]; exact Nat.le_refl _), ← byR_app, show l2.length + (byR [58]).length = (l2 ++ [58]).length by simp [byR]]
          obtain ⟨l3, hl3⟩ : ∃ l3, l2 ++ [58] = l3 := ⟨_, rfl⟩
          rw [hl3] at hb3 ⊢
          simp -implicitDefEqProofs (maxSteps := 1000000) (disch := omega) only [↓xsP, ↓vc_seq, xsQ, xsT, xsR, xsD, ↓reduceIte, reduceCtorEq, eq_self, ne_eq, imp_self, forall_const, Nat.reduceEqDiff, Nat.reduceAdd, Nat.reduceSub, Nat.reduceMul, Nat.reduceLT, Nat.reduceLeDiff, Nat.reduceBEq, Nat.reduceDiv, Nat.reduceMod, Int.reduceToNat, Int.reduceNeg, Int.reduceAdd, Int.reduceSub, Int.reduceMul, Int.reduceEq, Int.reduceNe, Int.reduceLT, Int.reduceLE, Int.reduceGT, Int.reduceGE, f11, f12, f13, hN7, hNb]
          refine ⟨.inl (by decide), ?_⟩
          obtain ⟨l4, hl4⟩ : ∃ l4, l3 ++ Lib.itoa p.val = l4 := ⟨_, rfl⟩
          refine wcall_new l4.length (.cells 5 (byR l4) 0) [n0 + 2] (fun M' hle => (appI_spec (.ms (l := l3) (hle _ _ (Mem.set_eq _ _ _))) p.val hpo.2.1 hpo.2.2 (by omega)).mono ?_) ?_
          · rintro _ _ ⟨id', hid', rfl, rfl⟩
            rw [hl4]
            exact ⟨id', hid', rfl, Mem.le_refl _⟩
          simp -implicitDefEqProofs (maxSteps := 1000000) (disch := omega) only [↓xsP, ↓vc_seq, xsQ, xsT, xsR, xsD, ↓reduceIte, reduceCtorEq, eq_self, ne_eq, imp_self, forall_const, Nat.reduceEqDiff, Nat.reduceAdd, Nat.reduceSub, Nat.reduceMul, Nat.reduceLT, Nat.reduceLeDiff, Nat.reduceBEq, Nat.reduceDiv, Nat.reduceMod, Int.reduceToNat, Int.reduceNeg, Int.reduceAdd, Int.reduceSub, Int.reduceMul, Int.reduceEq, Int.reduceNe, Int.reduceLT, Int.reduceLE, Int.reduceGT, Int.reduceGE, f11, f12, f13, hN7, hNb]
          refine ⟨.inl (by decide), s.length - (i + 1), M.set (n0 + 5) (.cells 5 (byR l4) 0), by omega, fun k bk hk => ?_, i + 1, n0 + 5, l4, by omega, rfl, fun j hj => ?_, ?_, ?_, rfl, by simp, rfl⟩
          · rw [Mem.set_app] at hk ⊢
            by_cases h : n0 + 5 = k
            · rw [if_pos h] at hk ⊢
              exact hk
            · rw [if_neg h] at hk ⊢
              have h2 := lt_of_bnd hn0 (hNM _ _ hk)
              have h3 : idc ≠ k := fun e => by
                rw [← e, hMc] at hk
                cases hk
              rw [Mem.del_ne _ _ _ (by omega), Mem.set_ne _ _ _ _ (by omega), Mem.del_ne _ _ _ h3, Mem.set_ne _ _ _ _ (by omega)]
              exact hNM _ _ hk
          · cases hm : M j with
            | none => rfl
            | some bk => have := hNM _ _ hm; rw [hn0 j (by omega)] at this; cases this
          · rw [take_sc s default hil, List.flatMap_append, ← List.append_assoc, ← hl2, hp, ← hl4, ← hl3, hl2t]
            simp [prTxt]
          · rw [← hl4, ← hl3, List.length_append, List.length_append]
            simp only [List.length_cons, List.length_nil]
            omega
    · have hil : i = s.length := by omega
      simp -implicitDefEqProofs (maxSteps := 1000000) (disch := omega) only [↓xsP, ↓vc_seq, xsQ, xsT, xsR, xsD, ↓reduceIte, reduceCtorEq, eq_self, ne_eq, imp_self, forall_const, Nat.reduceEqDiff, Nat.reduceAdd, Nat.reduceSub, Nat.reduceMul, Nat.reduceLT, Nat.reduceLeDiff, Nat.reduceBEq, Nat.reduceDiv, Nat.reduceMod, Int.reduceToNat, Int.reduceNeg, Int.reduceAdd, Int.reduceSub, Int.reduceMul, Int.reduceEq, Int.reduceNe, Int.reduceLT, Int.reduceLE, Int.reduceGT, Int.reduceGE, f5, f11, f12, f13]
      rw [if_pos (by rw [byR_len]; exact Nat.le_refl _), List.take_of_length_le (by rw [byR_len]; exact Nat.le_refl _), bytes_byR]
      simp -implicitDefEqProofs (maxSteps := 1000000) (disch := omega) only [↓xsP, ↓vc_seq, xsQ, xsT, xsR, xsD, ↓reduceIte, reduceCtorEq, eq_self, ne_eq, imp_self, forall_const, Nat.reduceEqDiff, Nat.reduceAdd, Nat.reduceSub, Nat.reduceMul, Nat.reduceLT, Nat.reduceLeDiff, Nat.reduceBEq, Nat.reduceDiv, Nat.reduceMod, Int.reduceToNat, Int.reduceNeg, Int.reduceAdd, Int.reduceSub, Int.reduceMul, Int.reduceEq, Int.reduceNe, Int.reduceLT, Int.reduceLE, Int.reduceGT, Int.reduceGE, f5, f11, f12, f13]
      refine fin_ok (le_new (Mem.le_refl _) hidb) ⟨?_, rfl⟩
      rw [hl2, hil, List.take_of_length_le (Nat.le_refl _)]
      rfl
end Go.X
set_option linter.unusedVariables false
set_option linter.unusedSimpArgs false
set_option maxRecDepth 100000
namespace Go.X

/-! ### numerals -/
def sgD (c : UInt8) : Bool := c.toNat == 45 || (decide (48 ≤ c.toNat) && decide (c.toNat ≤ 57))
def dval (l : List UInt8) : Nat := l.foldl (fun a c => a * 10 + (c.toNat - 48)) 0
theorem dval_app (a : List UInt8) (c : UInt8) : dval (a ++ [c]) = dval a * 10 + (c.toNat - 48) := by simp [dval]
theorem dig_toNat {k : Nat} (h : k < 10) : (UInt8.ofNat (48 + k)).toNat = 48 + k := by
  rw [UInt8.toNat_ofNat']
  omega
theorem dval_dec (u : Nat) : dval (Lib.decDigits u) = u := by
  induction u using Nat.strongRecOn with
  | _ u ih =>
    rw [Lib.decDigits]
    split
    · rename_i h
      simp only [dval, List.foldl_cons, List.foldl_nil]
      rw [dig_toNat h]
      omega
    · rename_i h
      rw [dval_app, ih (u / 10) (by omega), dig_toNat (by omega)]
      omega
theorem dec_D (u : Nat) : ∀ c ∈ Lib.decDigits u, 48 ≤ c.toNat ∧ c.toNat ≤ 57 := by
  induction u using Nat.strongRecOn with
  | _ u ih =>
    rw [Lib.decDigits]
    split
    · rename_i h
      intro c hc
      rw [List.mem_singleton.1 hc, dig_toNat h]
      omega
    · rename_i h
      intro c hc
      rcases List.mem_append.1 hc with hc | hc
      · exact ih (u / 10) (by omega) c hc
      · rw [List.mem_singleton.1 hc, dig_toNat (by omega)]
        omega
theorem dec_inj {u v : Nat} (h : Lib.decDigits u = Lib.decDigits v) : u = v := by rw [← dval_dec u, h, dval_dec]
theorem itoa_D (n : Int) : ∀ c ∈ Lib.itoa n, sgD c = true := by
  have hd : ∀ u, ∀ c ∈ Lib.decDigits u, sgD c = true := fun u c hc => by
    have := dec_D u c hc
    simp [sgD, this.1, this.2]
  rw [Lib.itoa]
  split
  · intro c hc
    rcases List.mem_cons.1 hc with rfl | hc
    · rfl
    · exact hd _ c hc
  · exact hd _
theorem itoa_inj {m n : Int} (h : Lib.itoa m = Lib.itoa n) : m = n := by
  have hne : ∀ u v, (45 :: Lib.decDigits u : List UInt8) ≠ Lib.decDigits v := fun u v e => by
    have := (dec_D v 45 (by rw [← e]; simp)).1
    simp at this
  rw [Lib.itoa, Lib.itoa] at h
  split at h
  · split at h
    · have := dec_inj (List.cons.inj h).2
      omega
    · exact absurd h (hne _ _)
  · split at h
    · exact absurd h.symm (hne _ _)
    · have := dec_inj h
      omega
/-- What begins with signs of numerals up to another sign is told by the whole. -/
theorem span_eq {p : UInt8 → Bool} {a b r s : List UInt8} (ha : ∀ c ∈ a, p c = true) (hb : ∀ c ∈ b, p c = true) (hr : ∀ c, r.head? = some c → p c = false) (hs : ∀ c, s.head? = some c → p c = false) (h : a ++ r = b ++ s) : a = b ∧ r = s := by
  have key : ∀ {a r : List UInt8}, (∀ c ∈ a, p c = true) → (∀ c, r.head? = some c → p c = false) → (a ++ r).takeWhile p = a := by
    intro a
    induction a with
    | nil =>
      intro r _ hr
      cases r with
      | nil => rfl
      | cons c r => rw [List.nil_append, List.takeWhile_cons, hr c rfl]; rfl
    | cons c a ih =>
      intro r ha hr
      rw [List.cons_append, List.takeWhile_cons, ha c (by simp), if_pos rfl, ih (fun c hc => ha c (by simp [hc])) hr]
  have e : a = b := by rw [← key ha hr, h, key hb hs]
  subst e
  exact ⟨rfl, List.append_cancel_left h⟩
def sTxt (c1 c2 : UInt8) (s : List Pr) : List UInt8 := s.flatMap fun p => c1 :: Lib.itoa p.key ++ c2 :: Lib.itoa p.val
theorem sTxt_head {c1 c2 : UInt8} (h1 : sgD c1 = false) (s : List Pr) : ∀ c, (sTxt c1 c2 s).head? = some c → sgD c = false := fun c hc => by
  cases s with
  | nil => cases hc
  | cons p s =>
    simp only [sTxt, List.flatMap_cons, List.cons_append, List.head?_cons, Option.some.injEq] at hc
    rw [← hc]
    exact h1
theorem sTxt_inj {c1 c2 : UInt8} (h1 : sgD c1 = false) (h2 : sgD c2 = false) : ∀ {s t : List Pr}, sTxt c1 c2 s = sTxt c1 c2 t → s = t
  | [], [], _ => rfl
  | [], q :: t, h => by simp [sTxt] at h
  | p :: s, [], h => by simp [sTxt] at h
  | p :: s, q :: t, h => by
    have e : ∀ (p : Pr) (s : List Pr), sTxt c1 c2 (p :: s) = c1 :: (Lib.itoa p.key ++ (c2 :: (Lib.itoa p.val ++ sTxt c1 c2 s))) := fun p s => by simp [sTxt]
    rw [e, e] at h
    have h := (List.cons.inj h).2
    obtain ⟨k1, h⟩ := span_eq (itoa_D _) (itoa_D _) (fun c hc => by simp at hc; rw [← hc]; exact h2) (fun c hc => by simp at hc; rw [← hc]; exact h2) h
    have h := (List.cons.inj h).2
    obtain ⟨k2, h⟩ := span_eq (itoa_D _) (itoa_D _) (sTxt_head h1 s) (sTxt_head h1 t) h
    have k3 := sTxt_inj h1 h2 h
    have k1 := itoa_inj k1
    have k2 := itoa_inj k2
    obtain ⟨pk, pv⟩ := p
    obtain ⟨qk, qv⟩ := q
    simp only at k1 k2
    rw [k1, k2, k3]
theorem dsTxt_inj {c1 c2 : UInt8} (h1 : sgD c1 = false) (h2 : sgD c2 = false) {d e : Int} {s t : List Pr} (h : Lib.itoa d ++ sTxt c1 c2 s = Lib.itoa e ++ sTxt c1 c2 t) : d = e ∧ s = t := by
  obtain ⟨k1, k2⟩ := span_eq (itoa_D _) (itoa_D _) (sTxt_head h1 s) (sTxt_head h1 t) h
  exact ⟨itoa_inj k1, sTxt_inj h1 h2 k2⟩
theorem stTxt_inj {d e : Int} {s t : List Pr} (h : stTxt d s = stTxt e t) : d = e ∧ s = t := dsTxt_inj (c1 := 32) (c2 := 58) (by decide) (by decide) h

/-! ### sets of texts -/
def sent (l : List UInt8) : Lf × Lf := (txt l, .int .i64 1)
def kfind : List (List UInt8) → List UInt8 → Nat → Option Nat
  | [], _, _ => none
  | a :: r, l, i => if l = a then some i else kfind r l (i + 1)
theorem txt_eq (a b : List UInt8) : sameK (txt a) (txt b) = some (decide (a = b)) := by
  simp only [txt, sameK, Option.some.injEq]
  refine decide_eq_decide.2 ⟨fun h => ?_, fun h => by rw [h]⟩
  have := congrArg (fun x : ByteArray => x.data.toList) h
  simpa using this
theorem findA_txt (l : List UInt8) (ks : List (List UInt8)) : ∀ j, findA (txt l) (ks.map sent) j = some ((kfind ks l j).map fun i => (i, .int .i64 1)) := by
  induction ks with
  | nil => intro j; rfl
  | cons a r ih =>
    intro j
    simp only [List.map_cons, sent, findA, txt_eq, kfind]
    by_cases h : l = a
    · simp [h]
    · simp only [h, decide_false, if_false]
      exact ih _
theorem kfind_mem {ks : List (List UInt8)} {l : List UInt8} : ∀ {j i : Nat}, kfind ks l j = some i → j ≤ i ∧ ks[i - j]? = some l := by
  induction ks with
  | nil => intro j i h; cases h
  | cons a r ih =>
    intro j i h
    simp only [kfind] at h
    split at h
    · rename_i e
      simp only [Option.some.injEq] at h
      subst h
      simp [e]
    · obtain ⟨h1, h2⟩ := ih h
      refine ⟨by omega, ?_⟩
      rw [show i - j = (i - (j + 1)) + 1 by omega]
      simpa using h2
theorem kfind_none {ks : List (List UInt8)} {l : List UInt8} : ∀ {j : Nat}, kfind ks l j = none ↔ l ∉ ks := by
  induction ks with
  | nil => intro j; simp [kfind]
  | cons a r ih =>
    intro j
    simp only [kfind]
    split
    · rename_i e; simp [e]
    · rename_i e; simp [e, ih]
structure SIMap (P : Program) (t : TypeId) : Prop where
  k : ∃ ti K E tk te, tiOf P t = some ti ∧ ti.d = .map K E ∧ tiOf P K = some tk ∧ tk.d = .string ∧ tiOf P E = some te ∧ te.zero = .l (.int .i64 0)
theorem lookup_txt {P : Program} {M : Mem} {t : TypeId} (ht : SIMap P t) {id : Nat} {ks : List (List UInt8)} (hM : M id = some (.map (ks.map sent))) (l : List UInt8) :
    lookupA P M t (.l (.mp id)) (.l (txt l)) false = some (.l (.int .i64 (if l ∈ ks then 1 else 0))) := by
  obtain ⟨ti, K, E, tk, te, h1, h2, h3, h4, h5, h6⟩ := ht.k
  unfold lookupA entsA
  have hk : keyT tk.d (txt l) = true := by rw [h4]; rfl
  simp only [h1, hM, h2, h3, h5, hk, if_true, findA_txt]
  cases hf : kfind ks l 0 with
  | none => simp [h6, kfind_none.1 hf]
  | some i =>
    have := List.mem_of_getElem? (kfind_mem hf).2
    simp [this]
def kput (ks : List (List UInt8)) (l : List UInt8) : List (List UInt8) := if l ∈ ks then ks else ks ++ [l]
theorem kput_mem {ks : List (List UInt8)} {l x : List UInt8} : x ∈ kput ks l ↔ x ∈ ks ∨ x = l := by
  rw [kput]
  split
  · rename_i h
    exact ⟨.inl, fun h' => h'.elim id fun e => e ▸ h⟩
  · simp
theorem mapUpd_txt {P : Program} {M : Mem} {t : TypeId} (ht : SIMap P t) {id : Nat} {ks : List (List UInt8)} (hM : M id = some (.map (ks.map sent))) (l : List UInt8) :
    mapUpdA P M t (.l (.mp id)) (.l (txt l)) (.l (.int .i64 1)) = some (M.set id (.map ((kput ks l).map sent))) := by
  obtain ⟨ti, K, E, tk, te, h1, h2, h3, h4, h5, h6⟩ := ht.k
  unfold mapUpdA
  have hk : keyT tk.d (txt l) = true := by rw [h4]; rfl
  simp only [h1, hM, h2, h3, hk, if_true, findA_txt]
  cases hf : kfind ks l 0 with
  | none =>
    rw [kput, if_neg (kfind_none.1 hf)]
    simp [sent]
  | some i =>
    obtain ⟨-, h7⟩ := kfind_mem hf
    rw [kput, if_pos (List.mem_of_getElem? h7)]
    simp only [Option.map_some]
    congr 3
    refine List.ext_getElem? fun j => ?_
    rw [List.getElem?_set]
    split
    · rename_i e
      subst e
      rw [Nat.sub_zero] at h7
      rw [List.getElem?_map, h7]
      have := (List.getElem?_eq_some_iff.1 h7).1
      simp [this, sent]
    · rfl
end Go.X
set_option linter.unusedVariables false
set_option linter.unusedSimpArgs false
set_option maxHeartbeats 20000000
set_option maxRecDepth 100000
namespace Go.X
open Go.Proofs.Tryd (prog)

theorem and_one' (i : Nat) (h : i ≤ 1000000) : bitsA .and .i64 (i : Int) 1 = ((i % 2 : Nat) : Int) := by
  have h1 : (BitVec.ofInt IntKind.i64.bits (i : Int) &&& BitVec.ofInt IntKind.i64.bits 1).toNat = i % 2 := by
    have e1 : (BitVec.ofInt IntKind.i64.bits (i : Int)).toNat = i := by
      rw [BitVec.toNat_ofInt]
      show ((i : Int) % ((2 ^ 64 : Nat) : Int)).toNat = i
      omega
    have e2 : (BitVec.ofInt IntKind.i64.bits (1 : Int)).toNat = 1 := by
      rw [BitVec.toNat_ofInt]
      rfl
    rw [BitVec.toNat_and, e1, e2, Nat.and_one_is_mod]
  rw [bitsA, h1, IntKind.wrap_i64]
  omega
theorem shr_nat (d i : Nat) (hi : i ≤ 16) : (d : Int).fdiv (2 ^ min i IntKind.i64.bits) = ((d / 2 ^ i : Nat) : Int) := by
  rw [show min i IntKind.i64.bits = i from Nat.min_eq_left (Nat.le_trans hi (by decide))]
  rw [Int.fdiv_eq_ediv_of_nonneg _ (by exact_mod_cast Nat.zero_le (2 ^ i))]
  exact_mod_cast (Int.natCast_ediv d (2 ^ i)).symm
theorem bit_dec {d i : Nat} (hd : d < 65536) (hi : i ≤ 16) : decide (bitsA .and .i64 ((d : Int).fdiv (2 ^ min i IntKind.i64.bits)) 1 = 0) = !d.testBit i := by
  rw [shr_nat d i hi, and_one' _ (Nat.le_trans (Nat.div_le_self _ _) (by omega)), Nat.testBit_eq_decide_div_mod_eq]
  rcases Nat.mod_two_eq_zero_or_one (d / 2 ^ i) with h | h
  · rw [h]; rfl
  · rw [h]; rfl
def mustC (c : Cl) : Prop := 0 ≤ c.fin ∧ c.ans.err = 0
def neverC (c : Cl) : Prop := 0 ≤ c.fin ∧ c.ans.err ≠ 0
def dueP (C : List Cl) (d : Nat) : Prop := ∃ i, i < C.length ∧ d.testBit i = false ∧ mustC (C.getD i default)
def freeP (C : List Cl) (d i : Nat) : Prop := (∀ j, j < C.length → d.testBit j = false → mustC (C.getD j default) → ¬ befP (C.getD j default) (C.getD i default)) ∧ d.testBit i = false ∧ ¬ neverC (C.getD i default)
def sRow (C : List Cl) (idm : Nat) (o : Lf) : List Lf := [.sl (C.map Cl.row), .mp idm, o]
theorem must_spec (c : Cl) (M : Mem) : XCalls Go.Proofs.Tryd.prog 48 [.agg c.row] M fun r M' => r = .l (.bool (bof (mustC c))) ∧ M' = M := by
  refine xcalls_intro (rs := [.tmp 2]) Go.Proofs.Tryd.func48 rfl (by kernel_rfl) rfl rfl (by kernel_rfl) (by simp) ?_
  simp -implicitDefEqProofs (maxSteps := 1000000) (disch := omega) only [↓xsP, ↓vc_seq, xsQ, xsT, xsR, xsD, ↓reduceIte, reduceCtorEq, eq_self, ne_eq, imp_self, forall_const, Nat.reduceEqDiff, Nat.reduceAdd, Nat.reduceSub, Nat.reduceMul, Nat.reduceLT, Nat.reduceLeDiff, Nat.reduceBEq, Nat.reduceDiv, Nat.reduceMod, Int.reduceToNat, Int.reduceNeg, Int.reduceAdd, Int.reduceSub, Int.reduceMul, Int.reduceEq, Int.reduceNe, Int.reduceLT, Int.reduceLE, Int.reduceGT, Int.reduceGE]
  refine newI_intro fun id hid => ?_
  simp -implicitDefEqProofs (maxSteps := 1000000) (disch := omega) only [↓xsP, ↓vc_seq, xsQ, xsT, xsR, xsD, ↓reduceIte, reduceCtorEq, eq_self, ne_eq, imp_self, forall_const, Nat.reduceEqDiff, Nat.reduceAdd, Nat.reduceSub, Nat.reduceMul, Nat.reduceLT, Nat.reduceLeDiff, Nat.reduceBEq, Nat.reduceDiv, Nat.reduceMod, Int.reduceToNat, Int.reduceNeg, Int.reduceAdd, Int.reduceSub, Int.reduceMul, Int.reduceEq, Int.reduceNe, Int.reduceLT, Int.reduceLE, Int.reduceGT, Int.reduceGE]
  have hle := le_new (b := .cells 77 [c.row] 0) (Mem.le_refl M) hid
  rw [row_cl] at hle
  refine gI_prop (fun h1 => ?_) (fun h1 => ?_)
  · simp -implicitDefEqProofs (maxSteps := 1000000) (disch := omega) only [↓xsP, ↓vc_seq, xsQ, xsT, xsR, xsD, ↓reduceIte, reduceCtorEq, eq_self, ne_eq, imp_self, forall_const, Nat.reduceEqDiff, Nat.reduceAdd, Nat.reduceSub, Nat.reduceMul, Nat.reduceLT, Nat.reduceLeDiff, Nat.reduceBEq, Nat.reduceDiv, Nat.reduceMod, Int.reduceToNat, Int.reduceNeg, Int.reduceAdd, Int.reduceSub, Int.reduceMul, Int.reduceEq, Int.reduceNe, Int.reduceLT, Int.reduceLE, Int.reduceGT, Int.reduceGE, h1]
    refine fin_ok hle ⟨?_, rfl⟩
    congr 2
    by_cases h2 : c.ans.err = 0
    · rw [decide_eq_true h2, bof_true ⟨h1, h2⟩]
    · rw [decide_eq_false h2, bof_false fun h => h2 h.2]
  · simp -implicitDefEqProofs (maxSteps := 1000000) (disch := omega) only [↓xsP, ↓vc_seq, xsQ, xsT, xsR, xsD, ↓reduceIte, reduceCtorEq, eq_self, ne_eq, imp_self, forall_const, Nat.reduceEqDiff, Nat.reduceAdd, Nat.reduceSub, Nat.reduceMul, Nat.reduceLT, Nat.reduceLeDiff, Nat.reduceBEq, Nat.reduceDiv, Nat.reduceMod, Int.reduceToNat, Int.reduceNeg, Int.reduceAdd, Int.reduceSub, Int.reduceMul, Int.reduceEq, Int.reduceNe, Int.reduceLT, Int.reduceLE, Int.reduceGT, Int.reduceGE, h1]
    refine fin_ok hle ⟨?_, rfl⟩
    rw [bof_false fun h => h1 h.1]
theorem never_spec (c : Cl) (M : Mem) : XCalls Go.Proofs.Tryd.prog 52 [.agg c.row] M fun r M' => r = .l (.bool (bof (neverC c))) ∧ M' = M := by
  refine xcalls_intro (rs := [.tmp 2]) Go.Proofs.Tryd.func52 rfl (by kernel_rfl) rfl rfl (by kernel_rfl) (by simp) ?_
  simp -implicitDefEqProofs (maxSteps := 1000000) (disch := omega) only [↓xsP, ↓vc_seq, xsQ, xsT, xsR, xsD, ↓reduceIte, reduceCtorEq, eq_self, ne_eq, imp_self, forall_const, Nat.reduceEqDiff, Nat.reduceAdd, Nat.reduceSub, Nat.reduceMul, Nat.reduceLT, Nat.reduceLeDiff, Nat.reduceBEq, Nat.reduceDiv, Nat.reduceMod, Int.reduceToNat, Int.reduceNeg, Int.reduceAdd, Int.reduceSub, Int.reduceMul, Int.reduceEq, Int.reduceNe, Int.reduceLT, Int.reduceLE, Int.reduceGT, Int.reduceGE]
  refine newI_intro fun id hid => ?_
  simp -implicitDefEqProofs (maxSteps := 1000000) (disch := omega) only [↓xsP, ↓vc_seq, xsQ, xsT, xsR, xsD, ↓reduceIte, reduceCtorEq, eq_self, ne_eq, imp_self, forall_const, Nat.reduceEqDiff, Nat.reduceAdd, Nat.reduceSub, Nat.reduceMul, Nat.reduceLT, Nat.reduceLeDiff, Nat.reduceBEq, Nat.reduceDiv, Nat.reduceMod, Int.reduceToNat, Int.reduceNeg, Int.reduceAdd, Int.reduceSub, Int.reduceMul, Int.reduceEq, Int.reduceNe, Int.reduceLT, Int.reduceLE, Int.reduceGT, Int.reduceGE]
  have hle := le_new (b := .cells 77 [c.row] 0) (Mem.le_refl M) hid
  rw [row_cl] at hle
  refine gI_prop (fun h1 => ?_) (fun h1 => ?_)
  · simp -implicitDefEqProofs (maxSteps := 1000000) (disch := omega) only [↓xsP, ↓vc_seq, xsQ, xsT, xsR, xsD, ↓reduceIte, reduceCtorEq, eq_self, ne_eq, imp_self, forall_const, Nat.reduceEqDiff, Nat.reduceAdd, Nat.reduceSub, Nat.reduceMul, Nat.reduceLT, Nat.reduceLeDiff, Nat.reduceBEq, Nat.reduceDiv, Nat.reduceMod, Int.reduceToNat, Int.reduceNeg, Int.reduceAdd, Int.reduceSub, Int.reduceMul, Int.reduceEq, Int.reduceNe, Int.reduceLT, Int.reduceLE, Int.reduceGT, Int.reduceGE, h1]
    refine fin_ok hle ⟨?_, rfl⟩
    congr 2
    by_cases h2 : c.ans.err = 0
    · rw [decide_eq_false (fun h => h h2), bof_false fun h => h.2 h2]
    · rw [decide_eq_true h2, bof_true ⟨h1, h2⟩]
  · simp -implicitDefEqProofs (maxSteps := 1000000) (disch := omega) only [↓xsP, ↓vc_seq, xsQ, xsT, xsR, xsD, ↓reduceIte, reduceCtorEq, eq_self, ne_eq, imp_self, forall_const, Nat.reduceEqDiff, Nat.reduceAdd, Nat.reduceSub, Nat.reduceMul, Nat.reduceLT, Nat.reduceLeDiff, Nat.reduceBEq, Nat.reduceDiv, Nat.reduceMod, Int.reduceToNat, Int.reduceNeg, Int.reduceAdd, Int.reduceSub, Int.reduceMul, Int.reduceEq, Int.reduceNe, Int.reduceLT, Int.reduceLE, Int.reduceGT, Int.reduceGE, h1]
    refine fin_ok hle ⟨?_, rfl⟩
    rw [bof_false fun h => h1 h.1]
theorem due_spec (C : List Cl) (hC : C.length ≤ 16) (d : Nat) (hd : d < 65536) (ids idm : Nat) (o : Lf) (M : Mem) (hM : M ids = some (.cells 58 [sRow C idm o] 0)) :
    XCalls Go.Proofs.Tryd.prog 33 [.l (.ptr ids 0 0), .l (.int .i64 d)] M fun r M' => r = .l (.bool (bof (dueP C d))) ∧ M' = M := by
  rw [sRow] at hM
  refine xcalls_intro (rs := [.tmp 4]) Go.Proofs.Tryd.func33 rfl (by kernel_rfl) rfl rfl (by kernel_rfl) (by simp) ?_
  simp -implicitDefEqProofs (maxSteps := 1000000) (disch := omega) only [↓xsP, ↓vc_seq, xsQ, xsT, xsR, xsD, ↓reduceIte, reduceCtorEq, eq_self, ne_eq, imp_self, forall_const, Nat.reduceEqDiff, Nat.reduceAdd, Nat.reduceSub, Nat.reduceMul, Nat.reduceLT, Nat.reduceLeDiff, Nat.reduceBEq, Nat.reduceDiv, Nat.reduceMod, Int.reduceToNat, Int.reduceNeg, Int.reduceAdd, Int.reduceSub, Int.reduceMul, Int.reduceEq, Int.reduceNe, Int.reduceLT, Int.reduceLE, Int.reduceGT, Int.reduceGE, hM]
  refine loopI_of (xloop (by kernel_rfl) (fun k fr M2 => ∃ i : Nat, i ≤ C.length ∧ k = C.length - i ∧ fr 1 = .l (.int .i64 d) ∧ fr 10 = .l (.sl (C.map Cl.row)) ∧ fr 11 = .l (.int .i64 C.length) ∧ fr 12 = .l (.int .i64 i) ∧ M2 = M ∧ ∀ j, j < i → d.testBit j = false → ¬ mustC (C.getD j default)) C.length ?_ ?_)
  · exact ⟨0, Nat.zero_le _, rfl, by simp -implicitDefEqProofs (maxSteps := 1000000) (disch := omega) only [↓xsP, ↓vc_seq, xsQ, xsT, xsR, xsD, ↓reduceIte, reduceCtorEq, eq_self, ne_eq, imp_self, forall_const, Nat.reduceEqDiff, Nat.reduceAdd, Nat.reduceSub, Nat.reduceMul, Nat.reduceLT, Nat.reduceLeDiff, Nat.reduceBEq, Nat.reduceDiv, Nat.reduceMod, Int.reduceToNat, Int.reduceNeg, Int.reduceAdd, Int.reduceSub, Int.reduceMul, Int.reduceEq, Int.reduceNe, Int.reduceLT, Int.reduceLE, Int.reduceGT, Int.reduceGE], by simp -implicitDefEqProofs (maxSteps := 1000000) (disch := omega) only [↓xsP, ↓vc_seq, xsQ, xsT, xsR, xsD, ↓reduceIte, reduceCtorEq, eq_self, ne_eq, imp_self, forall_const, Nat.reduceEqDiff, Nat.reduceAdd, Nat.reduceSub, Nat.reduceMul, Nat.reduceLT, Nat.reduceLeDiff, Nat.reduceBEq, Nat.reduceDiv, Nat.reduceMod, Int.reduceToNat, Int.reduceNeg, Int.reduceAdd, Int.reduceSub, Int.reduceMul, Int.reduceEq, Int.reduceNe, Int.reduceLT, Int.reduceLE, Int.reduceGT, Int.reduceGE], by simp -implicitDefEqProofs (maxSteps := 1000000) (disch := omega) only [↓xsP, ↓vc_seq, xsQ, xsT, xsR, xsD, ↓reduceIte, reduceCtorEq, eq_self, ne_eq, imp_self, forall_const, Nat.reduceEqDiff, Nat.reduceAdd, Nat.reduceSub, Nat.reduceMul, Nat.reduceLT, Nat.reduceLeDiff, Nat.reduceBEq, Nat.reduceDiv, Nat.reduceMod, Int.reduceToNat, Int.reduceNeg, Int.reduceAdd, Int.reduceSub, Int.reduceMul, Int.reduceEq, Int.reduceNe, Int.reduceLT, Int.reduceLE, Int.reduceGT, Int.reduceGE], by simp -implicitDefEqProofs (maxSteps := 1000000) (disch := omega) only [↓xsP, ↓vc_seq, xsQ, xsT, xsR, xsD, ↓reduceIte, reduceCtorEq, eq_self, ne_eq, imp_self, forall_const, Nat.reduceEqDiff, Nat.reduceAdd, Nat.reduceSub, Nat.reduceMul, Nat.reduceLT, Nat.reduceLeDiff, Nat.reduceBEq, Nat.reduceDiv, Nat.reduceMod, Int.reduceToNat, Int.reduceNeg, Int.reduceAdd, Int.reduceSub, Int.reduceMul, Int.reduceEq, Int.reduceNe, Int.reduceLT, Int.reduceLE, Int.reduceGT, Int.reduceGE, Int.cast_ofNat_Int], rfl, fun j hj => by omega⟩
  · rintro k fr M2 ⟨i, hi, rfl, f1, f10, f11, f12, rfl, hno⟩
    simp -implicitDefEqProofs (maxSteps := 1000000) (disch := omega) only [↓xsP, ↓vc_seq, xsQ, xsT, xsR, xsD, ↓reduceIte, reduceCtorEq, eq_self, ne_eq, imp_self, forall_const, Nat.reduceEqDiff, Nat.reduceAdd, Nat.reduceSub, Nat.reduceMul, Nat.reduceLT, Nat.reduceLeDiff, Nat.reduceBEq, Nat.reduceDiv, Nat.reduceMod, Int.reduceToNat, Int.reduceNeg, Int.reduceAdd, Int.reduceSub, Int.reduceMul, Int.reduceEq, Int.reduceNe, Int.reduceLT, Int.reduceLE, Int.reduceGT, Int.reduceGE, f1, f10, f11, f12]
    refine condI_prop (fun hlt => ?_) (fun hlt => ?_)
    · have hil : i < C.length := by omega
      simp -implicitDefEqProofs (maxSteps := 1000000) (disch := omega) only [↓xsP, ↓vc_seq, xsQ, xsT, xsR, xsD, ↓reduceIte, reduceCtorEq, eq_self, ne_eq, imp_self, forall_const, Nat.reduceEqDiff, Nat.reduceAdd, Nat.reduceSub, Nat.reduceMul, Nat.reduceLT, Nat.reduceLeDiff, Nat.reduceBEq, Nat.reduceDiv, Nat.reduceMod, Int.reduceToNat, Int.reduceNeg, Int.reduceAdd, Int.reduceSub, Int.reduceMul, Int.reduceEq, Int.reduceNe, Int.reduceLT, Int.reduceLE, Int.reduceGT, Int.reduceGE, f1, f10, f11, f12]
      refine newI_intro fun id6 hid6 => ?_
      simp -implicitDefEqProofs (maxSteps := 1000000) (disch := omega) only [↓xsP, ↓vc_seq, xsQ, xsT, xsR, xsD, ↓reduceIte, reduceCtorEq, eq_self, ne_eq, imp_self, forall_const, Nat.reduceEqDiff, Nat.reduceAdd, Nat.reduceSub, Nat.reduceMul, Nat.reduceLT, Nat.reduceLeDiff, Nat.reduceBEq, Nat.reduceDiv, Nat.reduceMod, Int.reduceToNat, Int.reduceNeg, Int.reduceAdd, Int.reduceSub, Int.reduceMul, Int.reduceEq, Int.reduceNe, Int.reduceLT, Int.reduceLE, Int.reduceGT, Int.reduceGE, f1, f10, f11, f12]
      rw [bit_dec hd (show i ≤ 16 by omega)]
      refine gI_t (fun hb => ?_) (fun hb => ?_)
      · have hb' : d.testBit i = false := by simpa using hb
        simp -implicitDefEqProofs (maxSteps := 1000000) (disch := omega) only [↓xsP, ↓vc_seq, xsQ, xsT, xsR, xsD, ↓reduceIte, reduceCtorEq, eq_self, ne_eq, imp_self, forall_const, Nat.reduceEqDiff, Nat.reduceAdd, Nat.reduceSub, Nat.reduceMul, Nat.reduceLT, Nat.reduceLeDiff, Nat.reduceBEq, Nat.reduceDiv, Nat.reduceMod, Int.reduceToNat, Int.reduceNeg, Int.reduceAdd, Int.reduceSub, Int.reduceMul, Int.reduceEq, Int.reduceNe, Int.reduceLT, Int.reduceLE, Int.reduceGT, Int.reduceGE, f1, f10, f11, f12, hb]
        refine call_of (must_spec _ _) ?_
        simp -implicitDefEqProofs (maxSteps := 1000000) (disch := omega) only [↓xsP, ↓vc_seq, xsQ, xsT, xsR, xsD, ↓reduceIte, reduceCtorEq, eq_self, ne_eq, imp_self, forall_const, Nat.reduceEqDiff, Nat.reduceAdd, Nat.reduceSub, Nat.reduceMul, Nat.reduceLT, Nat.reduceLeDiff, Nat.reduceBEq, Nat.reduceDiv, Nat.reduceMod, Int.reduceToNat, Int.reduceNeg, Int.reduceAdd, Int.reduceSub, Int.reduceMul, Int.reduceEq, Int.reduceNe, Int.reduceLT, Int.reduceLE, Int.reduceGT, Int.reduceGE, f1, f10, f11, f12, hb]
        refine condI_intro (fun hm => ?_) (fun hm => ?_)
        · simp -implicitDefEqProofs (maxSteps := 1000000) (disch := omega) only [↓xsP, ↓vc_seq, xsQ, xsT, xsR, xsD, ↓reduceIte, reduceCtorEq, eq_self, ne_eq, imp_self, forall_const, Nat.reduceEqDiff, Nat.reduceAdd, Nat.reduceSub, Nat.reduceMul, Nat.reduceLT, Nat.reduceLeDiff, Nat.reduceBEq, Nat.reduceDiv, Nat.reduceMod, Int.reduceToNat, Int.reduceNeg, Int.reduceAdd, Int.reduceSub, Int.reduceMul, Int.reduceEq, Int.reduceNe, Int.reduceLT, Int.reduceLE, Int.reduceGT, Int.reduceGE, f1, f10, f11, f12]
          refine fin_ok (le_new (Mem.le_refl _) hid6) ⟨?_, rfl⟩
          rw [bof_true (show dueP C d from ⟨i, hil, hb', bof_iff.1 hm⟩)]
        · simp -implicitDefEqProofs (maxSteps := 1000000) (disch := omega) only [↓xsP, ↓vc_seq, xsQ, xsT, xsR, xsD, ↓reduceIte, reduceCtorEq, eq_self, ne_eq, imp_self, forall_const, Nat.reduceEqDiff, Nat.reduceAdd, Nat.reduceSub, Nat.reduceMul, Nat.reduceLT, Nat.reduceLeDiff, Nat.reduceBEq, Nat.reduceDiv, Nat.reduceMod, Int.reduceToNat, Int.reduceNeg, Int.reduceAdd, Int.reduceSub, Int.reduceMul, Int.reduceEq, Int.reduceNe, Int.reduceLT, Int.reduceLE, Int.reduceGT, Int.reduceGE, f1, f10, f11, f12]
          refine ⟨C.length - (i + 1), M2, by omega, le_new (Mem.le_refl _) hid6, i + 1, by omega, rfl, by simp, rfl, fun j hj => ?_⟩
          by_cases e : j = i
          · rw [e]
            exact fun _ => bof_not.1 hm
          · exact hno j (by omega)
      · have hb' : d.testBit i = true := by simpa using hb
        simp -implicitDefEqProofs (maxSteps := 1000000) (disch := omega) only [↓xsP, ↓vc_seq, xsQ, xsT, xsR, xsD, ↓reduceIte, reduceCtorEq, eq_self, ne_eq, imp_self, forall_const, Nat.reduceEqDiff, Nat.reduceAdd, Nat.reduceSub, Nat.reduceMul, Nat.reduceLT, Nat.reduceLeDiff, Nat.reduceBEq, Nat.reduceDiv, Nat.reduceMod, Int.reduceToNat, Int.reduceNeg, Int.reduceAdd, Int.reduceSub, Int.reduceMul, Int.reduceEq, Int.reduceNe, Int.reduceLT, Int.reduceLE, Int.reduceGT, Int.reduceGE, f1, f10, f11, f12, hb]
        refine ⟨C.length - (i + 1), M2, by omega, le_new (Mem.le_refl _) hid6, i + 1, by omega, rfl, by simp, rfl, fun j hj => ?_⟩
        by_cases e : j = i
        · rw [e, hb']
          exact fun h => by cases h
        · exact hno j (by omega)
    · simp -implicitDefEqProofs (maxSteps := 1000000) (disch := omega) only [↓xsP, ↓vc_seq, xsQ, xsT, xsR, xsD, ↓reduceIte, reduceCtorEq, eq_self, ne_eq, imp_self, forall_const, Nat.reduceEqDiff, Nat.reduceAdd, Nat.reduceSub, Nat.reduceMul, Nat.reduceLT, Nat.reduceLeDiff, Nat.reduceBEq, Nat.reduceDiv, Nat.reduceMod, Int.reduceToNat, Int.reduceNeg, Int.reduceAdd, Int.reduceSub, Int.reduceMul, Int.reduceEq, Int.reduceNe, Int.reduceLT, Int.reduceLE, Int.reduceGT, Int.reduceGE, f1, f10, f11, f12]
      refine fin_ok (Mem.le_refl _) ⟨?_, rfl⟩
      rw [bof_false]
      rintro ⟨i', h1, h2, h3⟩
      exact hno i' (by omega) h2 h3
theorem free_spec (C : List Cl) (hC : C.length ≤ 16) (d : Nat) (hd : d < 65536) (i : Nat) (hi : i < C.length) (ids idm : Nat) (o : Lf) (M : Mem) (hM : M ids = some (.cells 58 [sRow C idm o] 0)) :
    XCalls Go.Proofs.Tryd.prog 35 [.l (.ptr ids 0 0), .l (.int .i64 d), .l (.int .i64 i)] M fun r M' => r = .l (.bool (bof (freeP C d i))) ∧ M' = M := by
  rw [sRow] at hM
  refine xcalls_intro (rs := [.tmp 6]) Go.Proofs.Tryd.func35 rfl (by kernel_rfl) rfl rfl (by kernel_rfl) (by simp) ?_
  simp -implicitDefEqProofs (maxSteps := 1000000) (disch := omega) only [↓xsP, ↓vc_seq, xsQ, xsT, xsR, xsD, ↓reduceIte, reduceCtorEq, eq_self, ne_eq, imp_self, forall_const, Nat.reduceEqDiff, Nat.reduceAdd, Nat.reduceSub, Nat.reduceMul, Nat.reduceLT, Nat.reduceLeDiff, Nat.reduceBEq, Nat.reduceDiv, Nat.reduceMod, Int.reduceToNat, Int.reduceNeg, Int.reduceAdd, Int.reduceSub, Int.reduceMul, Int.reduceEq, Int.reduceNe, Int.reduceLT, Int.reduceLE, Int.reduceGT, Int.reduceGE, hM]
  refine loopI_of (xloop (by kernel_rfl) (fun k fr M2 => ∃ j : Nat, j ≤ C.length ∧ k = C.length - j ∧ fr 0 = .l (.ptr ids 0 0) ∧ fr 1 = .l (.int .i64 d) ∧ fr 2 = .l (.int .i64 i) ∧ fr 12 = .l (.sl (C.map Cl.row)) ∧ fr 13 = .l (.int .i64 C.length) ∧ fr 14 = .l (.int .i64 j) ∧ M2 = M ∧ ∀ a, a < j → d.testBit a = false → mustC (C.getD a default) → ¬ befP (C.getD a default) (C.getD i default)) C.length ?_ ?_)
  · exact ⟨0, Nat.zero_le _, rfl, by simp -implicitDefEqProofs (maxSteps := 1000000) (disch := omega) only [↓xsP, ↓vc_seq, xsQ, xsT, xsR, xsD, ↓reduceIte, reduceCtorEq, eq_self, ne_eq, imp_self, forall_const, Nat.reduceEqDiff, Nat.reduceAdd, Nat.reduceSub, Nat.reduceMul, Nat.reduceLT, Nat.reduceLeDiff, Nat.reduceBEq, Nat.reduceDiv, Nat.reduceMod, Int.reduceToNat, Int.reduceNeg, Int.reduceAdd, Int.reduceSub, Int.reduceMul, Int.reduceEq, Int.reduceNe, Int.reduceLT, Int.reduceLE, Int.reduceGT, Int.reduceGE], by simp -implicitDefEqProofs (maxSteps := 1000000) (disch := omega) only [↓xsP, ↓vc_seq, xsQ, xsT, xsR, xsD, ↓reduceIte, reduceCtorEq, eq_self, ne_eq, imp_self, forall_const, Nat.reduceEqDiff, Nat.reduceAdd, Nat.reduceSub, Nat.reduceMul, Nat.reduceLT, Nat.reduceLeDiff, Nat.reduceBEq, Nat.reduceDiv, Nat.reduceMod, Int.reduceToNat, Int.reduceNeg, Int.reduceAdd, Int.reduceSub, Int.reduceMul, Int.reduceEq, Int.reduceNe, Int.reduceLT, Int.reduceLE, Int.reduceGT, Int.reduceGE], by simp -implicitDefEqProofs (maxSteps := 1000000) (disch := omega) only [↓xsP, ↓vc_seq, xsQ, xsT, xsR, xsD, ↓reduceIte, reduceCtorEq, eq_self, ne_eq, imp_self, forall_const, Nat.reduceEqDiff, Nat.reduceAdd, Nat.reduceSub, Nat.reduceMul, Nat.reduceLT, Nat.reduceLeDiff, Nat.reduceBEq, Nat.reduceDiv, Nat.reduceMod, Int.reduceToNat, Int.reduceNeg, Int.reduceAdd, Int.reduceSub, Int.reduceMul, Int.reduceEq, Int.reduceNe, Int.reduceLT, Int.reduceLE, Int.reduceGT, Int.reduceGE], by simp -implicitDefEqProofs (maxSteps := 1000000) (disch := omega) only [↓xsP, ↓vc_seq, xsQ, xsT, xsR, xsD, ↓reduceIte, reduceCtorEq, eq_self, ne_eq, imp_self, forall_const, Nat.reduceEqDiff, Nat.reduceAdd, Nat.reduceSub, Nat.reduceMul, Nat.reduceLT, Nat.reduceLeDiff, Nat.reduceBEq, Nat.reduceDiv, Nat.reduceMod, Int.reduceToNat, Int.reduceNeg, Int.reduceAdd, Int.reduceSub, Int.reduceMul, Int.reduceEq, Int.reduceNe, Int.reduceLT, Int.reduceLE, Int.reduceGT, Int.reduceGE], by simp -implicitDefEqProofs (maxSteps := 1000000) (disch := omega) only [↓xsP, ↓vc_seq, xsQ, xsT, xsR, xsD, ↓reduceIte, reduceCtorEq, eq_self, ne_eq, imp_self, forall_const, Nat.reduceEqDiff, Nat.reduceAdd, Nat.reduceSub, Nat.reduceMul, Nat.reduceLT, Nat.reduceLeDiff, Nat.reduceBEq, Nat.reduceDiv, Nat.reduceMod, Int.reduceToNat, Int.reduceNeg, Int.reduceAdd, Int.reduceSub, Int.reduceMul, Int.reduceEq, Int.reduceNe, Int.reduceLT, Int.reduceLE, Int.reduceGT, Int.reduceGE], by simp -implicitDefEqProofs (maxSteps := 1000000) (disch := omega) only [↓xsP, ↓vc_seq, xsQ, xsT, xsR, xsD, ↓reduceIte, reduceCtorEq, eq_self, ne_eq, imp_self, forall_const, Nat.reduceEqDiff, Nat.reduceAdd, Nat.reduceSub, Nat.reduceMul, Nat.reduceLT, Nat.reduceLeDiff, Nat.reduceBEq, Nat.reduceDiv, Nat.reduceMod, Int.reduceToNat, Int.reduceNeg, Int.reduceAdd, Int.reduceSub, Int.reduceMul, Int.reduceEq, Int.reduceNe, Int.reduceLT, Int.reduceLE, Int.reduceGT, Int.reduceGE, Int.cast_ofNat_Int], rfl, fun j hj => by omega⟩
  · rintro k fr M2 ⟨j, hj, rfl, f0, f1, f2, f12, f13, f14, rfl, hno⟩
    simp -implicitDefEqProofs (maxSteps := 1000000) (disch := omega) only [↓xsP, ↓vc_seq, xsQ, xsT, xsR, xsD, ↓reduceIte, reduceCtorEq, eq_self, ne_eq, imp_self, forall_const, Nat.reduceEqDiff, Nat.reduceAdd, Nat.reduceSub, Nat.reduceMul, Nat.reduceLT, Nat.reduceLeDiff, Nat.reduceBEq, Nat.reduceDiv, Nat.reduceMod, Int.reduceToNat, Int.reduceNeg, Int.reduceAdd, Int.reduceSub, Int.reduceMul, Int.reduceEq, Int.reduceNe, Int.reduceLT, Int.reduceLE, Int.reduceGT, Int.reduceGE, f0, f1, f2, f12, f13, f14]
    refine condI_prop (fun hlt => ?_) (fun hlt => ?_)
    · have hjl : j < C.length := by omega
      simp -implicitDefEqProofs (maxSteps := 1000000) (disch := omega) only [↓xsP, ↓vc_seq, xsQ, xsT, xsR, xsD, ↓reduceIte, reduceCtorEq, eq_self, ne_eq, imp_self, forall_const, Nat.reduceEqDiff, Nat.reduceAdd, Nat.reduceSub, Nat.reduceMul, Nat.reduceLT, Nat.reduceLeDiff, Nat.reduceBEq, Nat.reduceDiv, Nat.reduceMod, Int.reduceToNat, Int.reduceNeg, Int.reduceAdd, Int.reduceSub, Int.reduceMul, Int.reduceEq, Int.reduceNe, Int.reduceLT, Int.reduceLE, Int.reduceGT, Int.reduceGE, f0, f1, f2, f12, f13, f14]
      refine newI_intro fun id8 hid8 => ?_
      have hM8 : ∀ X : Blk, (M2.set id8 X) ids = some (.cells 58 [[.sl (C.map Cl.row), .mp idm, o]] 0) := fun X => by
        have := lt_of_bnd hid8 hM
        rw [Mem.set_ne _ _ _ _ (by omega)]
        exact hM
      simp -implicitDefEqProofs (maxSteps := 1000000) (disch := omega) only [↓xsP, ↓vc_seq, xsQ, xsT, xsR, xsD, ↓reduceIte, reduceCtorEq, eq_self, ne_eq, imp_self, forall_const, Nat.reduceEqDiff, Nat.reduceAdd, Nat.reduceSub, Nat.reduceMul, Nat.reduceLT, Nat.reduceLeDiff, Nat.reduceBEq, Nat.reduceDiv, Nat.reduceMod, Int.reduceToNat, Int.reduceNeg, Int.reduceAdd, Int.reduceSub, Int.reduceMul, Int.reduceEq, Int.reduceNe, Int.reduceLT, Int.reduceLE, Int.reduceGT, Int.reduceGE, f0, f1, f2, f12, f13, f14]
      refine xquiet (by kernel_rfl) (by kernel_rfl) (by kernel_rfl) ?_
      simp -implicitDefEqProofs (maxSteps := 1000000) (disch := omega) only [↓xsP, ↓vc_seq, xsQ, xsT, xsR, xsD, ↓reduceIte, reduceCtorEq, eq_self, ne_eq, imp_self, forall_const, Nat.reduceEqDiff, Nat.reduceAdd, Nat.reduceSub, Nat.reduceMul, Nat.reduceLT, Nat.reduceLeDiff, Nat.reduceBEq, Nat.reduceDiv, Nat.reduceMod, Int.reduceToNat, Int.reduceNeg, Int.reduceAdd, Int.reduceSub, Int.reduceMul, Int.reduceEq, Int.reduceNe, Int.reduceLT, Int.reduceLE, Int.reduceGT, Int.reduceGE, f0, f1, f2, f12, f13, f14, hM8]
      rw [bit_dec hd (show j ≤ 16 by omega)]
      have hgo : ∀ (q : ¬ (d.testBit j = false ∧ mustC (C.getD j default) ∧ befP (C.getD j default) (C.getD i default))), ∀ a, a < j + 1 → d.testBit a = false → mustC (C.getD a default) → ¬ befP (C.getD a default) (C.getD i default) := fun q a ha h1 h2 h3 => by
        by_cases e : a = j
        · rw [e] at h1 h2 h3
          exact q ⟨h1, h2, h3⟩
        · exact hno a (by omega) h1 h2 h3
      refine gI_t (fun hb => ?_) (fun hb => ?_)
      · have hb' : d.testBit j = false := by simpa using hb
        simp -implicitDefEqProofs (maxSteps := 1000000) (disch := omega) only [↓xsP, ↓vc_seq, xsQ, xsT, xsR, xsD, ↓reduceIte, reduceCtorEq, eq_self, ne_eq, imp_self, forall_const, Nat.reduceEqDiff, Nat.reduceAdd, Nat.reduceSub, Nat.reduceMul, Nat.reduceLT, Nat.reduceLeDiff, Nat.reduceBEq, Nat.reduceDiv, Nat.reduceMod, Int.reduceToNat, Int.reduceNeg, Int.reduceAdd, Int.reduceSub, Int.reduceMul, Int.reduceEq, Int.reduceNe, Int.reduceLT, Int.reduceLE, Int.reduceGT, Int.reduceGE, f0, f1, f2, f12, f13, f14, hM8, hb]
        refine dcallI_of (must_spec _ _) ?_
        simp -implicitDefEqProofs (maxSteps := 1000000) (disch := omega) only [↓xsP, ↓vc_seq, xsQ, xsT, xsR, xsD, ↓reduceIte, reduceCtorEq, eq_self, ne_eq, imp_self, forall_const, Nat.reduceEqDiff, Nat.reduceAdd, Nat.reduceSub, Nat.reduceMul, Nat.reduceLT, Nat.reduceLeDiff, Nat.reduceBEq, Nat.reduceDiv, Nat.reduceMod, Int.reduceToNat, Int.reduceNeg, Int.reduceAdd, Int.reduceSub, Int.reduceMul, Int.reduceEq, Int.reduceNe, Int.reduceLT, Int.reduceLE, Int.reduceGT, Int.reduceGE, f0, f1, f2, f12, f13, f14, hM8, hb]
        refine gI_t (fun hm => ?_) (fun hm => ?_)
        · simp -implicitDefEqProofs (maxSteps := 1000000) (disch := omega) only [↓xsP, ↓vc_seq, xsQ, xsT, xsR, xsD, ↓reduceIte, reduceCtorEq, eq_self, ne_eq, imp_self, forall_const, Nat.reduceEqDiff, Nat.reduceAdd, Nat.reduceSub, Nat.reduceMul, Nat.reduceLT, Nat.reduceLeDiff, Nat.reduceBEq, Nat.reduceDiv, Nat.reduceMod, Int.reduceToNat, Int.reduceNeg, Int.reduceAdd, Int.reduceSub, Int.reduceMul, Int.reduceEq, Int.reduceNe, Int.reduceLT, Int.reduceLE, Int.reduceGT, Int.reduceGE, f0, f1, f2, f12, f13, f14, hM8, hb, hm]
          refine dcallI_of (before_spec (C.getD j default) (C.getD i default) _) ?_
          simp -implicitDefEqProofs (maxSteps := 1000000) (disch := omega) only [↓xsP, ↓vc_seq, xsQ, xsT, xsR, xsD, ↓reduceIte, reduceCtorEq, eq_self, ne_eq, imp_self, forall_const, Nat.reduceEqDiff, Nat.reduceAdd, Nat.reduceSub, Nat.reduceMul, Nat.reduceLT, Nat.reduceLeDiff, Nat.reduceBEq, Nat.reduceDiv, Nat.reduceMod, Int.reduceToNat, Int.reduceNeg, Int.reduceAdd, Int.reduceSub, Int.reduceMul, Int.reduceEq, Int.reduceNe, Int.reduceLT, Int.reduceLE, Int.reduceGT, Int.reduceGE, f0, f1, f2, f12, f13, f14, hM8, hb, hm, bef_dec]
          refine condI_intro (fun hf => ?_) (fun hf => ?_)
          · simp -implicitDefEqProofs (maxSteps := 1000000) (disch := omega) only [↓xsP, ↓vc_seq, xsQ, xsT, xsR, xsD, ↓reduceIte, reduceCtorEq, eq_self, ne_eq, imp_self, forall_const, Nat.reduceEqDiff, Nat.reduceAdd, Nat.reduceSub, Nat.reduceMul, Nat.reduceLT, Nat.reduceLeDiff, Nat.reduceBEq, Nat.reduceDiv, Nat.reduceMod, Int.reduceToNat, Int.reduceNeg, Int.reduceAdd, Int.reduceSub, Int.reduceMul, Int.reduceEq, Int.reduceNe, Int.reduceLT, Int.reduceLE, Int.reduceGT, Int.reduceGE, f0, f1, f2, f12, f13, f14]
            refine fin_ok (le_new (Mem.le_refl _) hid8) ⟨?_, rfl⟩
            rw [bof_false (show ¬ freeP C d i from fun h => h.1 j hjl hb' (bof_iff.1 hm) (bof_iff.1 hf))]
          · simp -implicitDefEqProofs (maxSteps := 1000000) (disch := omega) only [↓xsP, ↓vc_seq, xsQ, xsT, xsR, xsD, ↓reduceIte, reduceCtorEq, eq_self, ne_eq, imp_self, forall_const, Nat.reduceEqDiff, Nat.reduceAdd, Nat.reduceSub, Nat.reduceMul, Nat.reduceLT, Nat.reduceLeDiff, Nat.reduceBEq, Nat.reduceDiv, Nat.reduceMod, Int.reduceToNat, Int.reduceNeg, Int.reduceAdd, Int.reduceSub, Int.reduceMul, Int.reduceEq, Int.reduceNe, Int.reduceLT, Int.reduceLE, Int.reduceGT, Int.reduceGE, f0, f1, f2, f12, f13, f14]
            exact ⟨C.length - (j + 1), M2, by omega, le_new (Mem.le_refl _) hid8, j + 1, by omega, rfl, by simp, rfl, hgo fun h => bof_not.1 hf h.2.2⟩
        · simp -implicitDefEqProofs (maxSteps := 1000000) (disch := omega) only [↓xsP, ↓vc_seq, xsQ, xsT, xsR, xsD, ↓reduceIte, reduceCtorEq, eq_self, ne_eq, imp_self, forall_const, Nat.reduceEqDiff, Nat.reduceAdd, Nat.reduceSub, Nat.reduceMul, Nat.reduceLT, Nat.reduceLeDiff, Nat.reduceBEq, Nat.reduceDiv, Nat.reduceMod, Int.reduceToNat, Int.reduceNeg, Int.reduceAdd, Int.reduceSub, Int.reduceMul, Int.reduceEq, Int.reduceNe, Int.reduceLT, Int.reduceLE, Int.reduceGT, Int.reduceGE, f0, f1, f2, f12, f13, f14, hM8, hb, hm]
          exact ⟨C.length - (j + 1), M2, by omega, le_new (Mem.le_refl _) hid8, j + 1, by omega, rfl, by simp, rfl, hgo fun h => bof_not.1 hm h.2.1⟩
      · have hb' : d.testBit j = true := by simpa using hb
        simp -implicitDefEqProofs (maxSteps := 1000000) (disch := omega) only [↓xsP, ↓vc_seq, xsQ, xsT, xsR, xsD, ↓reduceIte, reduceCtorEq, eq_self, ne_eq, imp_self, forall_const, Nat.reduceEqDiff, Nat.reduceAdd, Nat.reduceSub, Nat.reduceMul, Nat.reduceLT, Nat.reduceLeDiff, Nat.reduceBEq, Nat.reduceDiv, Nat.reduceMod, Int.reduceToNat, Int.reduceNeg, Int.reduceAdd, Int.reduceSub, Int.reduceMul, Int.reduceEq, Int.reduceNe, Int.reduceLT, Int.reduceLE, Int.reduceGT, Int.reduceGE, f0, f1, f2, f12, f13, f14, hM8, hb]
        exact ⟨C.length - (j + 1), M2, by omega, le_new (Mem.le_refl _) hid8, j + 1, by omega, rfl, by simp, rfl, hgo fun h => by rw [hb'] at h; cases h.1⟩
    · have hjl : j = C.length := by omega
      subst hjl
      simp -implicitDefEqProofs (maxSteps := 1000000) (disch := omega) only [↓xsP, ↓vc_seq, xsQ, xsT, xsR, xsD, ↓reduceIte, reduceCtorEq, eq_self, ne_eq, imp_self, forall_const, Nat.reduceEqDiff, Nat.reduceAdd, Nat.reduceSub, Nat.reduceMul, Nat.reduceLT, Nat.reduceLeDiff, Nat.reduceBEq, Nat.reduceDiv, Nat.reduceMod, Int.reduceToNat, Int.reduceNeg, Int.reduceAdd, Int.reduceSub, Int.reduceMul, Int.reduceEq, Int.reduceNe, Int.reduceLT, Int.reduceLE, Int.reduceGT, Int.reduceGE, f0, f1, f2, f12, f13, f14, hM]
      rw [bit_dec hd (show i ≤ 16 by omega)]
      refine gI_t (fun hb => ?_) (fun hb => ?_)
      · have hb' : d.testBit i = false := by simpa using hb
        simp -implicitDefEqProofs (maxSteps := 1000000) (disch := omega) only [↓xsP, ↓vc_seq, xsQ, xsT, xsR, xsD, ↓reduceIte, reduceCtorEq, eq_self, ne_eq, imp_self, forall_const, Nat.reduceEqDiff, Nat.reduceAdd, Nat.reduceSub, Nat.reduceMul, Nat.reduceLT, Nat.reduceLeDiff, Nat.reduceBEq, Nat.reduceDiv, Nat.reduceMod, Int.reduceToNat, Int.reduceNeg, Int.reduceAdd, Int.reduceSub, Int.reduceMul, Int.reduceEq, Int.reduceNe, Int.reduceLT, Int.reduceLE, Int.reduceGT, Int.reduceGE, f0, f1, f2, f12, f13, f14, hM, hb]
        refine call_of (never_spec _ _) ?_
        simp -implicitDefEqProofs (maxSteps := 1000000) (disch := omega) only [↓xsP, ↓vc_seq, xsQ, xsT, xsR, xsD, ↓reduceIte, reduceCtorEq, eq_self, ne_eq, imp_self, forall_const, Nat.reduceEqDiff, Nat.reduceAdd, Nat.reduceSub, Nat.reduceMul, Nat.reduceLT, Nat.reduceLeDiff, Nat.reduceBEq, Nat.reduceDiv, Nat.reduceMod, Int.reduceToNat, Int.reduceNeg, Int.reduceAdd, Int.reduceSub, Int.reduceMul, Int.reduceEq, Int.reduceNe, Int.reduceLT, Int.reduceLE, Int.reduceGT, Int.reduceGE, f0, f1, f2, f12, f13, f14, hM, hb]
        refine fin_ok (Mem.le_refl _) ⟨?_, rfl⟩
        cases hn : bof (neverC (C.getD i default)) with
        | true => rw [bof_false (show ¬ freeP C d i from fun h => h.2.2 (bof_iff.1 hn))]; rfl
        | false => rw [bof_true (show freeP C d i from ⟨hno, hb', bof_not.1 hn⟩)]; rfl
      · have hb' : d.testBit i = true := by simpa using hb
        simp -implicitDefEqProofs (maxSteps := 1000000) (disch := omega) only [↓xsP, ↓vc_seq, xsQ, xsT, xsR, xsD, ↓reduceIte, reduceCtorEq, eq_self, ne_eq, imp_self, forall_const, Nat.reduceEqDiff, Nat.reduceAdd, Nat.reduceSub, Nat.reduceMul, Nat.reduceLT, Nat.reduceLeDiff, Nat.reduceBEq, Nat.reduceDiv, Nat.reduceMod, Int.reduceToNat, Int.reduceNeg, Int.reduceAdd, Int.reduceSub, Int.reduceMul, Int.reduceEq, Int.reduceNe, Int.reduceLT, Int.reduceLE, Int.reduceGT, Int.reduceGE, f0, f1, f2, f12, f13, f14, hM, hb]
        refine fin_ok (Mem.le_refl _) ⟨?_, rfl⟩
        rw [bof_false (show ¬ freeP C d i from fun h => by have := h.2.1; rw [hb'] at this; cases this)]
end Go.X
set_option linter.unusedVariables false
set_option linter.unusedSimpArgs false
set_option maxHeartbeats 20000000
set_option maxRecDepth 100000
namespace Go.X
open Go.Proofs.Tryd (prog)

/-- How a search goes on to its end. -/
inductive Comp (C : List Cl) : Nat → List Pr → List Nat → Prop
  | nil {d : Nat} {s : List Pr} (h : ¬ dueP C d) : Comp C d s []
  | cons {d i : Nat} {s : List Pr} {l : List Nat} (hi : i < C.length) (hf : freeP C d i) (ha : 0 ≤ (C.getD i default).fin → doA s (C.getD i default).op = (C.getD i default).ans) (h : Comp C (d ||| 2 ^ i) (doL s (C.getD i default).op) l) : Comp C d s (i :: l)
def Dead (C : List Cl) (d : Nat) (s : List Pr) : Prop := ¬ ∃ l, Comp C d s l
def OpsOk (C : List Cl) : Prop := ∀ c ∈ C, IntOk' c.op.key ∧ IntOk' c.op.val
theorem withL_mem {l : List Pr} {p x : Pr} (h : x ∈ withL l p) : x ∈ l ∨ x = p := by
  rw [withL, List.mem_append, List.mem_append, List.mem_singleton] at h
  rcases h with (h | h) | h
  · exact .inl (List.mem_of_mem_take h)
  · exact .inr h
  · left
    unfold withRest at h
    split at h
    · cases h
    · rename_i y r hd
      have hm : ∀ z ∈ y :: r, z ∈ l := fun z hz => List.mem_of_mem_drop (hd ▸ hz)
      split at h
      · exact hm x (by simp [h])
      · exact hm x h
theorem doL_mem {l : List Pr} {op : Opn} {x : Pr} (h : x ∈ doL l op) : x ∈ l ∨ x = ⟨op.key, op.val⟩ := by
  rw [doL] at h
  split at h
  · exact .inl h
  · split at h
    · rw [oneL] at h
      split at h
      · exact withL_mem h
      · split at h
        · rcases List.mem_append.1 h with h | h
          · exact .inl (List.mem_of_mem_take h)
          · exact .inl (List.mem_of_mem_drop h)
        · exact .inl h
    · exact .inl h
theorem AllOk.doL {s : List Pr} {op : Opn} (h : AllOk s) (ho : IntOk' op.key ∧ IntOk' op.val) : AllOk (doL s op) := fun x hx => by
  rcases doL_mem hx with hx | rfl
  · exact h x hx
  · exact ho
theorem or_gt {d i : Nat} (h : d.testBit i = false) : d < d ||| 2 ^ i := by
  rcases Nat.lt_or_ge d (d ||| 2 ^ i) with h' | h'
  · exact h'
  · exfalso
    have h2 : d = d ||| 2 ^ i := Nat.le_antisymm Nat.left_le_or h'
    have := congrArg (fun x => x.testBit i) h2
    simp [Nat.testBit_or, h] at this
theorem or_lt {d i : Nat} (hd : d < 65536) (hi : i < 16) : d ||| 2 ^ i < 65536 := by
  have : d ||| 2 ^ i < 2 ^ 16 := Nat.or_lt_two_pow (by omega) (Nat.pow_lt_pow_right (by decide) hi)
  omega

structure SIn (B M : Mem) (ids idm : Nat) (o : Lf) (C : List Cl) (L : List Int) (ks : List (List UInt8)) : Prop where
  le : B.le M
  n1 : B ids = none
  n2 : B idm = none
  ne : ids ≠ idm
  own : M ids = some (.cells 58 [sRow C idm o] 0)
  map : M idm = some (.map (ks.map sent))
  ord : (L = [] ∧ o = .nils) ∨ ∃ idO rows, B idO = none ∧ o = .ms idO 0 L.length ∧ M idO = some (.cells 3 rows 0) ∧ L.length ≤ rows.length ∧ rows.take L.length = L.map irow
theorem SIn.grow {B M N : Mem} {ids idm : Nat} {o : Lf} {C : List Cl} {L : List Int} {ks : List (List UInt8)} (h : SIn B M ids idm o C L ks) (hle : M.le N) : SIn B N ids idm o C L ks := by
  refine ⟨fun k bk hk => hle _ _ (h.le _ _ hk), h.n1, h.n2, h.ne, hle _ _ h.own, hle _ _ h.map, ?_⟩
  rcases h.ord with h | ⟨idO, rows, a1, a2, a3, a4⟩
  · exact .inl h
  · exact .inr ⟨idO, rows, a1, a2, hle _ _ a3, a4⟩
theorem SIn.base {A B M : Mem} {ids idm : Nat} {o : Lf} {C : List Cl} {L : List Int} {ks : List (List UInt8)} (h : SIn B M ids idm o C L ks) (hle : A.le B) : SIn A M ids idm o C L ks := by
  have hn : ∀ k, B k = none → A k = none := fun k hk => by
    cases ha : A k with
    | none => rfl
    | some b => rw [hle _ _ ha] at hk; cases hk
  refine ⟨fun k bk hk => h.le _ _ (hle _ _ hk), hn _ h.n1, hn _ h.n2, h.ne, h.own, h.map, ?_⟩
  rcases h.ord with h | ⟨idO, rows, a1, a2, a3, a4⟩
  · exact .inl h
  · exact .inr ⟨idO, rows, hn _ a1, a2, a3, a4⟩
theorem SIn.with {B M : Mem} {ids idm : Nat} {o : Lf} {C : List Cl} {L : List Int} {ks : List (List UInt8)} (h : SIn B M ids idm o C L ks) {idn : Nat} (hn : M idn = none) (X : Blk) : SIn (B.set idn X) (M.set idn X) ids idm o C L ks := by
  have e : ∀ k bk, M k = some bk → idn ≠ k := fun k bk hk e => by rw [e, hk] at hn; cases hn
  have e2 : ∀ k bk, M k = some bk → ∀ (A : Mem), (A.set idn X) k = A k := fun k bk hk A => Mem.set_ne _ _ _ _ (e k bk hk)
  refine ⟨fun k bk hk => ?_, by rw [e2 _ _ h.own]; exact h.n1, by rw [e2 _ _ h.map]; exact h.n2, h.ne, by rw [e2 _ _ h.own]; exact h.own, by rw [e2 _ _ h.map]; exact h.map, ?_⟩
  · rw [Mem.set_app] at hk ⊢
    by_cases q : idn = k
    · rw [if_pos q] at hk ⊢
      exact hk
    · rw [if_neg q] at hk ⊢
      exact h.le _ _ hk
  · rcases h.ord with h | ⟨idO, rows, a1, a2, a3, a4⟩
    · exact .inl h
    · exact .inr ⟨idO, rows, by rw [e2 _ _ a3]; exact a1, a2, by rw [e2 _ _ a3]; exact a3, a4⟩
theorem srcRows_ms' {M : Mem} {t e : TypeId} {te : TI} {id : Nat} {r : List Lf} (hM : M id = some (.cells e [r] 0)) (hr : r.length = te.size) : srcRows Go.Proofs.Tryd.prog M t t e te (.l (.ms id 0 1)) = some [r] := by
  unfold srcRows
  rw [if_pos rfl]
  simp only [hM]
  rw [if_pos ⟨trivial, by simp⟩]
  rfl
theorem app_ord {B N : Mem} {ids idm : Nat} {o : Lf} {C : List Cl} {L : List Int} {ks : List (List UInt8)} (I : SIn B N ids idm o C L ks) {pb : Nat} (hb : ∀ j, pb ≤ j → N j = none) (e : Int) (hl : L.length ≤ 100000) {K : AV → Mem → Prop}
    (hk : ∀ (idO : Nat) (N' : Mem) (rows : List (List Lf)), B.le N' → N' ids = some (.cells 58 [sRow C idm o] 0) → N' idm = some (.map (ks.map sent)) → B idO = none → N' idO = some (.cells 3 rows 0) → L.length + 1 ≤ rows.length → rows.take (L.length + 1) = (L ++ [e]).map irow → idO ≠ ids → K (.l (.ms idO 0 (L.length + 1))) N') :
    @appI Go.Proofs.Tryd.prog (N.set pb (.cells 3 [irow e] 0)) 40 40 (.l o) (.l (.ms pb 0 1)) ⟨K⟩ := by
  have keep : ∀ k bk, N k = some bk → (N.set pb (.cells 3 [irow e] 0)) k = some bk := fun k bk h => by
    have := lt_of_bnd hb h
    rw [Mem.set_ne _ _ _ _ (by omega)]
    exact h
  have hs : ∀ te : TI, te.size = 1 → srcRows Go.Proofs.Tryd.prog (N.set pb (.cells 3 [irow e] 0)) 40 40 3 te (.l (.ms pb 0 1)) = some [irow e] := fun te h => srcRows_ms' (Mem.set_eq _ _ _) h.symm
  rcases I.ord with ⟨h1, rfl⟩ | ⟨idO, rows, a1, rfl, a3, a4, a5⟩
  · refine app_nils _ _ _ _ 3 _ _ ti_40 rfl ti_3 (by kernel_rfl) (by decide) _ [irow e] (hs _ rfl) (by simp) (by simp) (by simp) (fun _ idA hidA => ?_)
    have q : ∀ k bk, N k = some bk → ((N.set pb (.cells 3 [irow e] 0)).set idA (.cells 3 [irow e] 0)) k = some bk := fun k bk h => le_new (Mem.le_refl _) hidA _ _ (keep _ _ h)
    have hn : idA ≠ ids := by have := lt_of_bnd hidA (keep _ _ I.own); omega
    subst h1
    refine hk idA _ [irow e] (fun k bk h => q _ _ (I.le _ _ h)) (q _ _ I.own) (q _ _ I.map) ?_ (Mem.set_eq _ _ _) (by simp) (by simp) hn
    cases hB : B idA with
    | none => rfl
    | some bk => have := lt_of_bnd hidA (keep _ _ (I.le _ _ hB)); omega
  · refine app_ms _ _ _ _ 3 _ _ ti_40 rfl ti_3 (by kernel_rfl) (by decide) idO L.length _ (rows := rows) (keep := 0) [irow e] (keep _ _ a3) (hs _ rfl) a4 (Nat.zero_le _) ?_ ?_ (fun idA hidA => ?_)
    · exact Nat.le_trans (Nat.mul_le_mul_right _ (show L.length + 1 ≤ 100001 by omega)) (by decide)
    · exact Nat.le_trans (show L.length + 1 ≤ 100001 by omega) (by decide)
    have q : ∀ k bk, k ≠ idO → N k = some bk → ((((N.set pb (.cells 3 [irow e] 0)).del idO).set idA (.cells 3 (rows.take L.length ++ [irow e]) 0)) k) = some bk := fun k bk hne h => by
      have := lt_of_bnd hidA (keep _ _ h)
      rw [Mem.set_ne _ _ _ _ (by omega), Mem.del_ne _ _ _ (fun e => hne e.symm)]
      exact keep _ _ h
    have hn : idA ≠ ids := by have := lt_of_bnd hidA (keep _ _ I.own); omega
    refine hk idA _ (rows.take L.length ++ [irow e]) (fun k bk h => q _ _ (fun e => by rw [e, a1] at h; cases h) (I.le _ _ h)) (q _ _ (fun e => by rw [← e, I.own] at a3; cases a3) I.own) (q _ _ (fun e => by rw [← e, I.map] at a3; cases a3) I.map) ?_ (Mem.set_eq _ _ _) (by simp; omega) ?_ hn
    · cases hB : B idA with
      | none => rfl
      | some bk => have := lt_of_bnd hidA (keep _ _ (I.le _ _ hB)); omega
    · rw [List.take_of_length_le (by simp; omega), a5, List.map_append]
      rfl
theorem or_pow (d i : Nat) (hd : d < 65536) (hi : i < 16) : bitsA .or .i64 (d : Int) (IntKind.i64.wrap (1 * 2 ^ min i IntKind.i64.bits)) = ((d ||| 2 ^ i : Nat) : Int) := by
  have e1 : IntKind.i64.wrap (1 * 2 ^ min i IntKind.i64.bits) = ((2 ^ i : Nat) : Int) := by
    rw [show min i IntKind.i64.bits = i from Nat.min_eq_left (Nat.le_trans (Nat.le_of_lt hi) (by decide)), Int.one_mul]
    have : 2 ^ i < 2 ^ 16 := Nat.pow_lt_pow_right (by decide) hi
    have e : ((2 : Int) ^ i) = ((2 ^ i : Nat) : Int) := by push_cast; rfl
    rw [e, IntKind.wrap_i64]
    generalize 2 ^ i = z at this ⊢
    omega
  rw [e1, bitsA]
  have h2 : 2 ^ i < 65536 := Nat.lt_of_lt_of_le (Nat.pow_lt_pow_right (by decide) hi) (by decide)
  have h3 : (BitVec.ofInt IntKind.i64.bits (d : Int) ||| BitVec.ofInt IntKind.i64.bits ((2 ^ i : Nat) : Int)).toNat = d ||| 2 ^ i := by
    have g : ∀ n : Nat, n < 65536 → (BitVec.ofInt IntKind.i64.bits (n : Int)).toNat = n := fun n hn => by
      rw [BitVec.toNat_ofInt]
      show ((n : Int) % ((2 ^ 64 : Nat) : Int)).toNat = n
      omega
    rw [BitVec.toNat_or, g _ hd, g _ h2]
  rw [h3, IntKind.wrap_i64]
  have := or_lt hd hi
  omega
def DeadAll (C : List Cl) (ks : List (List UInt8)) : Prop := ∀ k ∈ ks, ∃ (d : Nat) (s : List Pr), k = stTxt d s ∧ Dead C d s
theorem sgoes_spec (C : List Cl) (hC : C.length ≤ 16) (hCo : OpsOk C) : ∀ (n d : Nat), 65536 - d ≤ n → d < 65536 → ∀ (s : List Pr), AllOk s → s.length ≤ 1000 + d → ∀ (B M : Mem) (ids idm idp : Nat) (o : Lf) (L : List Int) (ks : List (List UInt8)), L.length ≤ d → DeadAll C ks → SIn B M ids idm o C L ks → B idp = some (mapB s) →
    XCalls Go.Proofs.Tryd.prog 22 [.l (.ptr ids 0 0), .l (.int .i64 d), .l (.ptr idp 0 0)] M fun r M' => ∃ (b : Bool) (o' : Lf) (L' : List Int) (ks' : List (List UInt8)), r = .l (.bool b) ∧ SIn B M' ids idm o' C L' ks' ∧ DeadAll C ks' ∧ (b = true → ∃ l, Comp C d s l ∧ L' = L ++ l.map fun i : Nat => (i : Int)) ∧ (b = false → L' = L ∧ Dead C d s) := by
  intro n
  induction n with
  | zero => intro d h1 h2; omega
  | succ n ih =>
  intro d hn hd s hs hsl B M ids idm idp o L ks hLd hks I hp
  have hown := I.own
  rw [sRow] at hown
  have hpM := I.le _ _ hp
  refine xcalls_intro (rs := [.tmp 6]) Go.Proofs.Tryd.func22 rfl (by kernel_rfl) rfl rfl (by kernel_rfl) (by simp) ?_
  simp -implicitDefEqProofs (maxSteps := 1000000) (disch := omega) only [↓xsP, ↓vc_seq, xsQ, xsT, xsR, xsD, ↓reduceIte, reduceCtorEq, eq_self, ne_eq, imp_self, forall_const, Nat.reduceEqDiff, Nat.reduceAdd, Nat.reduceSub, Nat.reduceMul, Nat.reduceLT, Nat.reduceLeDiff, Nat.reduceBEq, Nat.reduceDiv, Nat.reduceMod, Int.reduceToNat, Int.reduceNeg, Int.reduceAdd, Int.reduceSub, Int.reduceMul, Int.reduceEq, Int.reduceNe, Int.reduceLT, Int.reduceLE, Int.reduceGT, Int.reduceGE]
  refine call_of (due_spec C hC d hd ids idm o _ I.own) ?_
  simp -implicitDefEqProofs (maxSteps := 1000000) (disch := omega) only [↓xsP, ↓vc_seq, xsQ, xsT, xsR, xsD, ↓reduceIte, reduceCtorEq, eq_self, ne_eq, imp_self, forall_const, Nat.reduceEqDiff, Nat.reduceAdd, Nat.reduceSub, Nat.reduceMul, Nat.reduceLT, Nat.reduceLeDiff, Nat.reduceBEq, Nat.reduceDiv, Nat.reduceMod, Int.reduceToNat, Int.reduceNeg, Int.reduceAdd, Int.reduceSub, Int.reduceMul, Int.reduceEq, Int.reduceNe, Int.reduceLT, Int.reduceLE, Int.reduceGT, Int.reduceGE]
  refine condI_intro (fun hb => ?_) (fun hb => ?_)
  · simp -implicitDefEqProofs (maxSteps := 1000000) (disch := omega) only [↓xsP, ↓vc_seq, xsQ, xsT, xsR, xsD, ↓reduceIte, reduceCtorEq, eq_self, ne_eq, imp_self, forall_const, Nat.reduceEqDiff, Nat.reduceAdd, Nat.reduceSub, Nat.reduceMul, Nat.reduceLT, Nat.reduceLeDiff, Nat.reduceBEq, Nat.reduceDiv, Nat.reduceMod, Int.reduceToNat, Int.reduceNeg, Int.reduceAdd, Int.reduceSub, Int.reduceMul, Int.reduceEq, Int.reduceNe, Int.reduceLT, Int.reduceLE, Int.reduceGT, Int.reduceGE]
    exact fin_ok (Mem.le_refl _) ⟨true, o, L, ks, rfl, I, hks, fun _ => ⟨[], .nil (bof_not.1 (by simpa using hb)), by simp⟩, fun h => by cases h⟩
  have hdue : dueP C d := bof_iff.1 (by simpa using hb)
  simp -implicitDefEqProofs (maxSteps := 1000000) (disch := omega) only [↓xsP, ↓vc_seq, xsQ, xsT, xsR, xsD, ↓reduceIte, reduceCtorEq, eq_self, ne_eq, imp_self, forall_const, Nat.reduceEqDiff, Nat.reduceAdd, Nat.reduceSub, Nat.reduceMul, Nat.reduceLT, Nat.reduceLeDiff, Nat.reduceBEq, Nat.reduceDiv, Nat.reduceMod, Int.reduceToNat, Int.reduceNeg, Int.reduceAdd, Int.reduceSub, Int.reduceMul, Int.reduceEq, Int.reduceNe, Int.reduceLT, Int.reduceLE, Int.reduceGT, Int.reduceGE]
  refine call_of (state_spec d ⟨by omega, by omega⟩ s hs (by omega) idp _ hpM) ?_
  have hlk := lookup_txt (P := Go.Proofs.Tryd.prog) (M := M) (t := 56) ⟨⟨_, _, _, _, _, ti_56, rfl, ti_9, rfl, ti_3, rfl⟩⟩ I.map (stTxt d s)
  simp -implicitDefEqProofs (maxSteps := 1000000) (disch := omega) only [↓xsP, ↓vc_seq, xsQ, xsT, xsR, xsD, ↓reduceIte, reduceCtorEq, eq_self, ne_eq, imp_self, forall_const, Nat.reduceEqDiff, Nat.reduceAdd, Nat.reduceSub, Nat.reduceMul, Nat.reduceLT, Nat.reduceLeDiff, Nat.reduceBEq, Nat.reduceDiv, Nat.reduceMod, Int.reduceToNat, Int.reduceNeg, Int.reduceAdd, Int.reduceSub, Int.reduceMul, Int.reduceEq, Int.reduceNe, Int.reduceLT, Int.reduceLE, Int.reduceGT, Int.reduceGE, hown, hlk]
  refine condI_prop (fun hmet => ?_) (fun hmet => ?_)
  · simp -implicitDefEqProofs (maxSteps := 1000000) (disch := omega) only [↓xsP, ↓vc_seq, xsQ, xsT, xsR, xsD, ↓reduceIte, reduceCtorEq, eq_self, ne_eq, imp_self, forall_const, Nat.reduceEqDiff, Nat.reduceAdd, Nat.reduceSub, Nat.reduceMul, Nat.reduceLT, Nat.reduceLeDiff, Nat.reduceBEq, Nat.reduceDiv, Nat.reduceMod, Int.reduceToNat, Int.reduceNeg, Int.reduceAdd, Int.reduceSub, Int.reduceMul, Int.reduceEq, Int.reduceNe, Int.reduceLT, Int.reduceLE, Int.reduceGT, Int.reduceGE]
    have hm : stTxt d s ∈ ks := by
      by_cases h : stTxt d s ∈ ks
      · exact h
      · exact absurd (if_neg h) hmet
    refine fin_ok (Mem.le_refl _) ⟨false, o, L, ks, rfl, I, hks, (fun h => absurd h (by decide)), fun _ => ⟨rfl, ?_⟩⟩
    obtain ⟨d', s', e, hdd⟩ := hks _ hm
    obtain ⟨e1, e2⟩ := stTxt_inj e
    rw [e2, show d = d' by omega]
    exact hdd
  clear hmet hlk
  simp -implicitDefEqProofs (maxSteps := 1000000) (disch := omega) only [↓xsP, ↓vc_seq, xsQ, xsT, xsR, xsD, ↓reduceIte, reduceCtorEq, eq_self, ne_eq, imp_self, forall_const, Nat.reduceEqDiff, Nat.reduceAdd, Nat.reduceSub, Nat.reduceMul, Nat.reduceLT, Nat.reduceLeDiff, Nat.reduceBEq, Nat.reduceDiv, Nat.reduceMod, Int.reduceToNat, Int.reduceNeg, Int.reduceAdd, Int.reduceSub, Int.reduceMul, Int.reduceEq, Int.reduceNe, Int.reduceLT, Int.reduceLE, Int.reduceGT, Int.reduceGE, hown]
  refine loopI_of (xloop (by kernel_rfl) (fun k fr M2 => ∃ (i : Nat) (o : Lf) (ks : List (List UInt8)), i ≤ C.length ∧ k = C.length - i ∧ fr 0 = .l (.ptr ids 0 0) ∧ fr 1 = .l (.int .i64 d) ∧ fr 2 = .l (.ptr idp 0 0) ∧ fr 7 = .l (txt (stTxt d s)) ∧ fr 29 = .l (.sl (C.map Cl.row)) ∧ fr 30 = .l (.int .i64 C.length) ∧ fr 31 = .l (.int .i64 i) ∧ SIn B M2 ids idm o C L ks ∧ DeadAll C ks ∧ ∀ j, j < i → freeP C d j → (0 ≤ (C.getD j default).fin → doA s (C.getD j default).op = (C.getD j default).ans) → Dead C (d ||| 2 ^ j) (doL s (C.getD j default).op)) C.length ?_ ?_)
  · exact ⟨0, o, ks, Nat.zero_le _, rfl, by simp -implicitDefEqProofs (maxSteps := 1000000) (disch := omega) only [↓xsP, ↓vc_seq, xsQ, xsT, xsR, xsD, ↓reduceIte, reduceCtorEq, eq_self, ne_eq, imp_self, forall_const, Nat.reduceEqDiff, Nat.reduceAdd, Nat.reduceSub, Nat.reduceMul, Nat.reduceLT, Nat.reduceLeDiff, Nat.reduceBEq, Nat.reduceDiv, Nat.reduceMod, Int.reduceToNat, Int.reduceNeg, Int.reduceAdd, Int.reduceSub, Int.reduceMul, Int.reduceEq, Int.reduceNe, Int.reduceLT, Int.reduceLE, Int.reduceGT, Int.reduceGE], by simp -implicitDefEqProofs (maxSteps := 1000000) (disch := omega) only [↓xsP, ↓vc_seq, xsQ, xsT, xsR, xsD, ↓reduceIte, reduceCtorEq, eq_self, ne_eq, imp_self, forall_const, Nat.reduceEqDiff, Nat.reduceAdd, Nat.reduceSub, Nat.reduceMul, Nat.reduceLT, Nat.reduceLeDiff, Nat.reduceBEq, Nat.reduceDiv, Nat.reduceMod, Int.reduceToNat, Int.reduceNeg, Int.reduceAdd, Int.reduceSub, Int.reduceMul, Int.reduceEq, Int.reduceNe, Int.reduceLT, Int.reduceLE, Int.reduceGT, Int.reduceGE], by simp -implicitDefEqProofs (maxSteps := 1000000) (disch := omega) only [↓xsP, ↓vc_seq, xsQ, xsT, xsR, xsD, ↓reduceIte, reduceCtorEq, eq_self, ne_eq, imp_self, forall_const, Nat.reduceEqDiff, Nat.reduceAdd, Nat.reduceSub, Nat.reduceMul, Nat.reduceLT, Nat.reduceLeDiff, Nat.reduceBEq, Nat.reduceDiv, Nat.reduceMod, Int.reduceToNat, Int.reduceNeg, Int.reduceAdd, Int.reduceSub, Int.reduceMul, Int.reduceEq, Int.reduceNe, Int.reduceLT, Int.reduceLE, Int.reduceGT, Int.reduceGE], by simp -implicitDefEqProofs (maxSteps := 1000000) (disch := omega) only [↓xsP, ↓vc_seq, xsQ, xsT, xsR, xsD, ↓reduceIte, reduceCtorEq, eq_self, ne_eq, imp_self, forall_const, Nat.reduceEqDiff, Nat.reduceAdd, Nat.reduceSub, Nat.reduceMul, Nat.reduceLT, Nat.reduceLeDiff, Nat.reduceBEq, Nat.reduceDiv, Nat.reduceMod, Int.reduceToNat, Int.reduceNeg, Int.reduceAdd, Int.reduceSub, Int.reduceMul, Int.reduceEq, Int.reduceNe, Int.reduceLT, Int.reduceLE, Int.reduceGT, Int.reduceGE], by simp -implicitDefEqProofs (maxSteps := 1000000) (disch := omega) only [↓xsP, ↓vc_seq, xsQ, xsT, xsR, xsD, ↓reduceIte, reduceCtorEq, eq_self, ne_eq, imp_self, forall_const, Nat.reduceEqDiff, Nat.reduceAdd, Nat.reduceSub, Nat.reduceMul, Nat.reduceLT, Nat.reduceLeDiff, Nat.reduceBEq, Nat.reduceDiv, Nat.reduceMod, Int.reduceToNat, Int.reduceNeg, Int.reduceAdd, Int.reduceSub, Int.reduceMul, Int.reduceEq, Int.reduceNe, Int.reduceLT, Int.reduceLE, Int.reduceGT, Int.reduceGE], by simp -implicitDefEqProofs (maxSteps := 1000000) (disch := omega) only [↓xsP, ↓vc_seq, xsQ, xsT, xsR, xsD, ↓reduceIte, reduceCtorEq, eq_self, ne_eq, imp_self, forall_const, Nat.reduceEqDiff, Nat.reduceAdd, Nat.reduceSub, Nat.reduceMul, Nat.reduceLT, Nat.reduceLeDiff, Nat.reduceBEq, Nat.reduceDiv, Nat.reduceMod, Int.reduceToNat, Int.reduceNeg, Int.reduceAdd, Int.reduceSub, Int.reduceMul, Int.reduceEq, Int.reduceNe, Int.reduceLT, Int.reduceLE, Int.reduceGT, Int.reduceGE], by simp -implicitDefEqProofs (maxSteps := 1000000) (disch := omega) only [↓xsP, ↓vc_seq, xsQ, xsT, xsR, xsD, ↓reduceIte, reduceCtorEq, eq_self, ne_eq, imp_self, forall_const, Nat.reduceEqDiff, Nat.reduceAdd, Nat.reduceSub, Nat.reduceMul, Nat.reduceLT, Nat.reduceLeDiff, Nat.reduceBEq, Nat.reduceDiv, Nat.reduceMod, Int.reduceToNat, Int.reduceNeg, Int.reduceAdd, Int.reduceSub, Int.reduceMul, Int.reduceEq, Int.reduceNe, Int.reduceLT, Int.reduceLE, Int.reduceGT, Int.reduceGE, Int.cast_ofNat_Int], I, hks, fun j hj => by omega⟩
  clear hown hpM I hks
  rintro k fr M2 ⟨i, o, ks, hi, rfl, f0, f1, f2, f7, f29, f30, f31, I, hks, hno⟩
  have hown := I.own
  rw [sRow] at hown
  have hpM := I.le _ _ hp
  simp -implicitDefEqProofs (maxSteps := 1000000) (disch := omega) only [↓xsP, ↓vc_seq, xsQ, xsT, xsR, xsD, ↓reduceIte, reduceCtorEq, eq_self, ne_eq, imp_self, forall_const, Nat.reduceEqDiff, Nat.reduceAdd, Nat.reduceSub, Nat.reduceMul, Nat.reduceLT, Nat.reduceLeDiff, Nat.reduceBEq, Nat.reduceDiv, Nat.reduceMod, Int.reduceToNat, Int.reduceNeg, Int.reduceAdd, Int.reduceSub, Int.reduceMul, Int.reduceEq, Int.reduceNe, Int.reduceLT, Int.reduceLE, Int.reduceGT, Int.reduceGE, f0, f1, f2, f7, f29, f30, f31]
  refine condI_prop (fun hlt => ?_) (fun hlt => ?_)
  · have hil : i < C.length := by omega
    obtain ⟨c, hc⟩ : ∃ c, C.getD i default = c := ⟨_, rfl⟩
    simp -implicitDefEqProofs (maxSteps := 1000000) (disch := omega) only [↓xsP, ↓vc_seq, xsQ, xsT, xsR, xsD, ↓reduceIte, reduceCtorEq, eq_self, ne_eq, imp_self, forall_const, Nat.reduceEqDiff, Nat.reduceAdd, Nat.reduceSub, Nat.reduceMul, Nat.reduceLT, Nat.reduceLeDiff, Nat.reduceBEq, Nat.reduceDiv, Nat.reduceMod, Int.reduceToNat, Int.reduceNeg, Int.reduceAdd, Int.reduceSub, Int.reduceMul, Int.reduceEq, Int.reduceNe, Int.reduceLT, Int.reduceLE, Int.reduceGT, Int.reduceGE, f0, f1, f2, f7, f29, f30, f31, hc]
    refine newI_intro fun id9 hid9 => ?_
    have hl9 : ∀ X : Blk, M2.le (M2.set id9 X) := fun X => le_new (Mem.le_refl _) hid9
    simp -implicitDefEqProofs (maxSteps := 1000000) (disch := omega) only [↓xsP, ↓vc_seq, xsQ, xsT, xsR, xsD, ↓reduceIte, reduceCtorEq, eq_self, ne_eq, imp_self, forall_const, Nat.reduceEqDiff, Nat.reduceAdd, Nat.reduceSub, Nat.reduceMul, Nat.reduceLT, Nat.reduceLeDiff, Nat.reduceBEq, Nat.reduceDiv, Nat.reduceMod, Int.reduceToNat, Int.reduceNeg, Int.reduceAdd, Int.reduceSub, Int.reduceMul, Int.reduceEq, Int.reduceNe, Int.reduceLT, Int.reduceLE, Int.reduceGT, Int.reduceGE, f0, f1, f2, f7, f29, f30, f31, hc]
    refine call_of (free_spec C hC d hd i hil ids idm o _ (hl9 _ _ _ I.own)) ?_
    simp -implicitDefEqProofs (maxSteps := 1000000) (disch := omega) only [↓xsP, ↓vc_seq, xsQ, xsT, xsR, xsD, ↓reduceIte, reduceCtorEq, eq_self, ne_eq, imp_self, forall_const, Nat.reduceEqDiff, Nat.reduceAdd, Nat.reduceSub, Nat.reduceMul, Nat.reduceLT, Nat.reduceLeDiff, Nat.reduceBEq, Nat.reduceDiv, Nat.reduceMod, Int.reduceToNat, Int.reduceNeg, Int.reduceAdd, Int.reduceSub, Int.reduceMul, Int.reduceEq, Int.reduceNe, Int.reduceLT, Int.reduceLE, Int.reduceGT, Int.reduceGE, f0, f1, f2, f7, f29, f30, f31, hc]
    have hskip : (freeP C d i → ¬ (0 ≤ c.fin → doA s c.op = c.ans)) → ∀ j, j < i + 1 → freeP C d j → (0 ≤ (C.getD j default).fin → doA s (C.getD j default).op = (C.getD j default).ans) → Dead C (d ||| 2 ^ j) (doL s (C.getD j default).op) := fun q j hj h1 h2 => by
      by_cases e : j = i
      · rw [e, hc] at h2
        exact absurd h2 (q (e ▸ h1))
      · exact hno j (by omega) h1 h2
    refine condI_intro (fun hfr => ?_) (fun hfr => ?_)
    · simp -implicitDefEqProofs (maxSteps := 1000000) (disch := omega) only [↓xsP, ↓vc_seq, xsQ, xsT, xsR, xsD, ↓reduceIte, reduceCtorEq, eq_self, ne_eq, imp_self, forall_const, Nat.reduceEqDiff, Nat.reduceAdd, Nat.reduceSub, Nat.reduceMul, Nat.reduceLT, Nat.reduceLeDiff, Nat.reduceBEq, Nat.reduceDiv, Nat.reduceMod, Int.reduceToNat, Int.reduceNeg, Int.reduceAdd, Int.reduceSub, Int.reduceMul, Int.reduceEq, Int.reduceNe, Int.reduceLT, Int.reduceLE, Int.reduceGT, Int.reduceGE, f0, f1, f2, f7, f29, f30, f31, hc]
      have hfr' : ¬ freeP C d i := bof_not.1 (by simpa using hfr)
      exact ⟨C.length - (i + 1), M2, by omega, hl9 _, i + 1, o, ks, by omega, rfl, by simp, I, hks, hskip fun h => absurd h hfr'⟩
    · have hfr' : freeP C d i := bof_iff.1 (by simpa using hfr)
      have hib : d.testBit i = false := hfr'.2.1
      have hdi := or_gt hib
      have hdl := or_lt hd (show i < 16 by omega)
      simp -implicitDefEqProofs (maxSteps := 1000000) (disch := omega) only [↓xsP, ↓vc_seq, xsQ, xsT, xsR, xsD, ↓reduceIte, reduceCtorEq, eq_self, ne_eq, imp_self, forall_const, Nat.reduceEqDiff, Nat.reduceAdd, Nat.reduceSub, Nat.reduceMul, Nat.reduceLT, Nat.reduceLeDiff, Nat.reduceBEq, Nat.reduceDiv, Nat.reduceMod, Int.reduceToNat, Int.reduceNeg, Int.reduceAdd, Int.reduceSub, Int.reduceMul, Int.reduceEq, Int.reduceNe, Int.reduceLT, Int.reduceLE, Int.reduceGT, Int.reduceGE, f0, f1, f2, f7, f29, f30, f31, hc]
      refine callI_of ((copy_spec s (by omega) idp _ (hl9 _ _ _ hpM)).mono ?_)
      rintro _ _ ⟨idn, hidn, rfl, rfl⟩
      obtain ⟨k9, hidnM⟩ := bnd_new hidn
      simp -implicitDefEqProofs (maxSteps := 1000000) (disch := omega) only [↓xsP, ↓vc_seq, xsQ, xsT, xsR, xsD, ↓reduceIte, reduceCtorEq, eq_self, ne_eq, imp_self, forall_const, Nat.reduceEqDiff, Nat.reduceAdd, Nat.reduceSub, Nat.reduceMul, Nat.reduceLT, Nat.reduceLeDiff, Nat.reduceBEq, Nat.reduceDiv, Nat.reduceMod, Int.reduceToNat, Int.reduceNeg, Int.reduceAdd, Int.reduceSub, Int.reduceMul, Int.reduceEq, Int.reduceNe, Int.reduceLT, Int.reduceLE, Int.reduceGT, Int.reduceGE, f0, f1, f2, f7, f29, f30, f31, hc]
      refine callI_of ((modelDo_spec s (by omega) c.op idn _ (Mem.set_eq _ _ _)).mono ?_)
      rintro _ _ ⟨rfl, rfl⟩
      rw [Mem.set_set]
      have hdl2 := doA_lenO s c.op
      have hdd := doL_len s c.op
      have hIn := I.with (hidnM idn (Nat.le_refl _)) (mapB (doL s c.op))
      have key : ∀ (X Y : Blk), ∃ N, N = (M2.set id9 X).set idn Y ∧ N id9 = some X ∧ (∀ j, idn + 1 ≤ j → N j = none) ∧ (M2.set idn Y).le N := fun X Y => by
        refine ⟨_, rfl, by rw [Mem.set_ne _ _ _ _ (by omega), Mem.set_eq], fun j hj => ?_, fun k bk hk => ?_⟩
        · rw [Mem.set_ne _ _ _ _ (by omega), Mem.set_ne _ _ _ _ (by omega)]
          exact hidnM j (by omega)
        · rw [Mem.set_app] at hk ⊢
          by_cases q : idn = k
          · rw [if_pos q] at hk ⊢
            exact hk
          · rw [if_neg q] at hk ⊢
            exact hl9 _ _ _ hk
      obtain ⟨N, hN, hN9, hNb, hNle⟩ := key (.cells 77 [c.row] 0) (mapB (doL s c.op))
      rw [row_cl] at hN hN9
      rw [← hN]
      clear hN
      simp -implicitDefEqProofs (maxSteps := 1000000) (disch := omega) only [↓xsP, ↓vc_seq, xsQ, xsT, xsR, xsD, ↓reduceIte, reduceCtorEq, eq_self, ne_eq, imp_self, forall_const, Nat.reduceEqDiff, Nat.reduceAdd, Nat.reduceSub, Nat.reduceMul, Nat.reduceLT, Nat.reduceLeDiff, Nat.reduceBEq, Nat.reduceDiv, Nat.reduceMod, Int.reduceToNat, Int.reduceNeg, Int.reduceAdd, Int.reduceSub, Int.reduceMul, Int.reduceEq, Int.reduceNe, Int.reduceLT, Int.reduceLE, Int.reduceGT, Int.reduceGE, f0, f1, f2, f7, f29, f30, f31, hc]
      refine newI_intro fun id11 hid11 => ?_
      have k11 := lt_of_bnd hid11 hN9
      have hN9' : ∀ X : Blk, (N.set id11 X) id9 = N id9 := fun X => Mem.set_ne _ _ _ _ (by omega)
      have h11 : ∀ X : Blk, N.le (N.set id11 X) := fun X => le_new (Mem.le_refl _) hid11
      have hgo : ∀ (X : Blk), SIn B (N.set id11 X) ids idm o C L ks := fun X => (hIn.grow fun k bk hk => h11 _ _ _ (hNle _ _ hk)).base (fun k bk hk => by
        rw [Mem.set_ne _ _ _ _ (fun e => by rw [← e] at hk; have := I.le _ _ hk; rw [hidnM _ (Nat.le_refl _)] at this; cases this)]
        exact hk)
      simp -implicitDefEqProofs (maxSteps := 1000000) (disch := omega) only [↓xsP, xsQ, xsT, xsR, xsD, ↓reduceIte, reduceCtorEq, eq_self, ne_eq, imp_self, forall_const, Nat.reduceEqDiff, Nat.reduceAdd, Nat.reduceSub, Nat.reduceMul, Nat.reduceLT, Nat.reduceLeDiff, Nat.reduceBEq, Nat.reduceDiv, Nat.reduceMod, Int.reduceToNat, Int.reduceNeg, Int.reduceAdd, Int.reduceSub, Int.reduceMul, Int.reduceEq, Int.reduceNe, Int.reduceLT, Int.reduceLE, Int.reduceGT, Int.reduceGE, f0, f1, f2, f7, f29, f30, f31, hc, hN9', hN9]
      obtain ⟨sk, hsk⟩ : ∃ sk, sk = bof (0 ≤ c.fin ∧ doA s c.op ≠ c.ans) := ⟨_, rfl⟩
      refine vc_cut (fun fr2 M4 => fr2 0 = .l (.ptr ids 0 0) ∧ fr2 1 = .l (.int .i64 d) ∧ fr2 2 = .l (.ptr idp 0 0) ∧ fr2 7 = .l (txt (stTxt d s)) ∧ fr2 29 = .l (.sl (C.map Cl.row)) ∧ fr2 30 = .l (.int .i64 C.length) ∧ fr2 31 = .l (.int .i64 i) ∧ fr2 8 = .l (.int .i64 i) ∧ fr2 10 = .l (.ptr idn 0 0) ∧ fr2 56 = .l (.bool sk) ∧ SIn (B.set idn (mapB (doL s c.op))) M4 ids idm o C L ks ∧ M2.le M4) ?_ ?_
      · have hI4 : ∀ X : Blk, SIn (B.set idn (mapB (doL s c.op))) (N.set id11 X) ids idm o C L ks := fun X => hIn.grow fun k bk hk => h11 _ _ _ (hNle _ _ hk)
        have hM4 : ∀ X : Blk, M2.le (N.set id11 X) := fun X k bk hk => h11 _ _ _ (hNle _ _ (le_new (Mem.le_refl _) hidnM _ _ hk))
        simp -implicitDefEqProofs (maxSteps := 1000000) (disch := omega) only [↓xsP, ↓vc_seq, xsQ, xsT, xsR, xsD, ↓reduceIte, reduceCtorEq, eq_self, ne_eq, imp_self, forall_const, Nat.reduceEqDiff, Nat.reduceAdd, Nat.reduceSub, Nat.reduceMul, Nat.reduceLT, Nat.reduceLeDiff, Nat.reduceBEq, Nat.reduceDiv, Nat.reduceMod, Int.reduceToNat, Int.reduceNeg, Int.reduceAdd, Int.reduceSub, Int.reduceMul, Int.reduceEq, Int.reduceNe, Int.reduceLT, Int.reduceLE, Int.reduceGT, Int.reduceGE, f0, f1, f2, f7, f29, f30, f31, hc, hN9', hN9]
        refine gI_prop (fun hf => ?_) (fun hf => ?_)
        · simp -implicitDefEqProofs (maxSteps := 1000000) (disch := omega) only [↓xsP, ↓vc_seq, xsQ, xsT, xsR, xsD, ↓reduceIte, reduceCtorEq, eq_self, ne_eq, imp_self, forall_const, Nat.reduceEqDiff, Nat.reduceAdd, Nat.reduceSub, Nat.reduceMul, Nat.reduceLT, Nat.reduceLeDiff, Nat.reduceBEq, Nat.reduceDiv, Nat.reduceMod, Int.reduceToNat, Int.reduceNeg, Int.reduceAdd, Int.reduceSub, Int.reduceMul, Int.reduceEq, Int.reduceNe, Int.reduceLT, Int.reduceLE, Int.reduceGT, Int.reduceGE, f0, f1, f2, f7, f29, f30, f31, hc, hN9', hN9, hf]
          refine call_of (sameAns_spec (doA s c.op) c.ans (by omega) _) ?_
          simp -implicitDefEqProofs (maxSteps := 1000000) (disch := omega) only [↓xsP, ↓vc_seq, xsQ, xsT, xsR, xsD, ↓reduceIte, reduceCtorEq, eq_self, ne_eq, imp_self, forall_const, Nat.reduceEqDiff, Nat.reduceAdd, Nat.reduceSub, Nat.reduceMul, Nat.reduceLT, Nat.reduceLeDiff, Nat.reduceBEq, Nat.reduceDiv, Nat.reduceMod, Int.reduceToNat, Int.reduceNeg, Int.reduceAdd, Int.reduceSub, Int.reduceMul, Int.reduceEq, Int.reduceNe, Int.reduceLT, Int.reduceLE, Int.reduceGT, Int.reduceGE, f0, f1, f2, f7, f29, f30, f31, hc, hN9', hN9, hf]
          refine ⟨?_, hI4 _, hM4 _⟩
          rw [hsk]
          cases he : bof (doA s c.op = c.ans) with
          | true => rw [bof_false fun h => h.2 (bof_iff.1 he)]; rfl
          | false => rw [bof_true ⟨hf, bof_not.1 he⟩]; rfl
        · simp -implicitDefEqProofs (maxSteps := 1000000) (disch := omega) only [↓xsP, ↓vc_seq, xsQ, xsT, xsR, xsD, ↓reduceIte, reduceCtorEq, eq_self, ne_eq, imp_self, forall_const, Nat.reduceEqDiff, Nat.reduceAdd, Nat.reduceSub, Nat.reduceMul, Nat.reduceLT, Nat.reduceLeDiff, Nat.reduceBEq, Nat.reduceDiv, Nat.reduceMod, Int.reduceToNat, Int.reduceNeg, Int.reduceAdd, Int.reduceSub, Int.reduceMul, Int.reduceEq, Int.reduceNe, Int.reduceLT, Int.reduceLE, Int.reduceGT, Int.reduceGE, f0, f1, f2, f7, f29, f30, f31, hc, hN9', hN9, hf]
          refine ⟨?_, hI4 _, hM4 _⟩
          rw [hsk, bof_false fun h => hf h.1]
      rintro fr2 M4 ⟨g0, g1, g2, g7, g29, g30, g31, g8, g10, g56, I4, hle4⟩
      have hown4 := I4.own
      rw [sRow] at hown4
      simp -implicitDefEqProofs (maxSteps := 1000000) (disch := omega) only [↓xsP, ↓vc_seq, xsQ, xsT, xsR, xsD, ↓reduceIte, reduceCtorEq, eq_self, ne_eq, imp_self, forall_const, Nat.reduceEqDiff, Nat.reduceAdd, Nat.reduceSub, Nat.reduceMul, Nat.reduceLT, Nat.reduceLeDiff, Nat.reduceBEq, Nat.reduceDiv, Nat.reduceMod, Int.reduceToNat, Int.reduceNeg, Int.reduceAdd, Int.reduceSub, Int.reduceMul, Int.reduceEq, Int.reduceNe, Int.reduceLT, Int.reduceLE, Int.reduceGT, Int.reduceGE, g0, g1, g2, g7, g29, g30, g31, g8, g10, g56]
      refine condI_intro (fun hs1 => ?_) (fun hs1 => ?_)
      · simp -implicitDefEqProofs (maxSteps := 1000000) (disch := omega) only [↓xsP, ↓vc_seq, xsQ, xsT, xsR, xsD, ↓reduceIte, reduceCtorEq, eq_self, ne_eq, imp_self, forall_const, Nat.reduceEqDiff, Nat.reduceAdd, Nat.reduceSub, Nat.reduceMul, Nat.reduceLT, Nat.reduceLeDiff, Nat.reduceBEq, Nat.reduceDiv, Nat.reduceMod, Int.reduceToNat, Int.reduceNeg, Int.reduceAdd, Int.reduceSub, Int.reduceMul, Int.reduceEq, Int.reduceNe, Int.reduceLT, Int.reduceLE, Int.reduceGT, Int.reduceGE, g0, g1, g2, g7, g29, g30, g31, g8, g10, g56]
        have := bof_iff.1 (hsk.symm.trans hs1)
        exact ⟨C.length - (i + 1), M2, by omega, hle4, i + 1, o, ks, by omega, rfl, by simp, I, hks, hskip fun _ h => this.2 (h this.1)⟩
      have hgood : 0 ≤ c.fin → doA s c.op = c.ans := fun h => by
        have := bof_not.1 (hsk.symm.trans hs1)
        by_cases e : doA s c.op = c.ans
        · exact e
        · exact absurd ⟨h, e⟩ this
      simp -implicitDefEqProofs (maxSteps := 1000000) (disch := omega) only [↓xsP, ↓vc_seq, xsQ, xsT, xsR, xsD, ↓reduceIte, reduceCtorEq, eq_self, ne_eq, imp_self, forall_const, Nat.reduceEqDiff, Nat.reduceAdd, Nat.reduceSub, Nat.reduceMul, Nat.reduceLT, Nat.reduceLeDiff, Nat.reduceBEq, Nat.reduceDiv, Nat.reduceMod, Int.reduceToNat, Int.reduceNeg, Int.reduceAdd, Int.reduceSub, Int.reduceMul, Int.reduceEq, Int.reduceNe, Int.reduceLT, Int.reduceLE, Int.reduceGT, Int.reduceGE, g0, g1, g2, g7, g29, g30, g31, g8, g10, g56, hown4]
      refine newI_intro fun ida hida => ?_
      simp -implicitDefEqProofs (maxSteps := 1000000) (disch := omega) only [↓xsP, ↓vc_seq, xsQ, xsT, xsR, xsD, ↓reduceIte, reduceCtorEq, eq_self, ne_eq, imp_self, forall_const, Nat.reduceEqDiff, Nat.reduceAdd, Nat.reduceSub, Nat.reduceMul, Nat.reduceLT, Nat.reduceLeDiff, Nat.reduceBEq, Nat.reduceDiv, Nat.reduceMod, Int.reduceToNat, Int.reduceNeg, Int.reduceAdd, Int.reduceSub, Int.reduceMul, Int.reduceEq, Int.reduceNe, Int.reduceLT, Int.reduceLE, Int.reduceGT, Int.reduceGE, g0, g1, g2, g7, g29, g30, g31, g8, g10, g56, hown4]
      refine app_ord I4 hida i (by omega) fun idO N' rows b1 b2 b3 b4 b5 b6 b7 b8 => ?_
      rw [sRow] at b2
      simp -implicitDefEqProofs (maxSteps := 1000000) (disch := omega) only [↓xsP, ↓vc_seq, xsQ, xsT, xsR, xsD, ↓reduceIte, reduceCtorEq, eq_self, ne_eq, imp_self, forall_const, Nat.reduceEqDiff, Nat.reduceAdd, Nat.reduceSub, Nat.reduceMul, Nat.reduceLT, Nat.reduceLeDiff, Nat.reduceBEq, Nat.reduceDiv, Nat.reduceMod, Int.reduceToNat, Int.reduceNeg, Int.reduceAdd, Int.reduceSub, Int.reduceMul, Int.reduceEq, Int.reduceNe, Int.reduceLT, Int.reduceLE, Int.reduceGT, Int.reduceGE, g0, g1, g2, g7, g29, g30, g31, g8, g10, g56, b2]
      rw [or_pow d i hd (by omega)]
      have I5 : SIn (B.set idn (mapB (doL s c.op))) (N'.set ids (.cells 58 [sRow C idm (.ms idO 0 (L.length + 1))] 0)) ids idm (.ms idO 0 (L ++ [(i : Int)]).length) C (L ++ [(i : Int)]) ks := by
        have e1 : (L ++ [(i : Int)]).length = L.length + 1 := by simp
        refine ⟨fun k bk hk => ?_, I4.n1, I4.n2, I4.ne, by rw [Mem.set_eq, e1], by rw [Mem.set_ne _ _ _ _ I4.ne]; exact b3, .inr ⟨idO, rows, b4, rfl, by rw [Mem.set_ne _ _ _ _ (fun e => b8 e.symm)]; exact b5, by rw [e1]; exact b6, by rw [e1]; exact b7⟩⟩
        rw [Mem.set_ne _ _ _ _ (fun e => by rw [← e, I4.n1] at hk; cases hk)]
        exact b1 _ _ hk
      rw [sRow] at I5
      have hcm : c ∈ C := by rw [← hc]; exact getD_mem' C default hil
      refine callI_of ((ih (d ||| 2 ^ i) (by omega) hdl (doL s c.op) (hs.doL (hCo c hcm)) (by omega) _ _ ids idm idn _ (L ++ [(i : Int)]) ks (by simp; omega) hks I5 (Mem.set_eq _ _ _)).mono ?_)
      rintro _ M6 ⟨b, o6, L6, ks6, rfl, I6, hks6, ht, hf⟩
      have hB6 : B.le (B.set idn (mapB (doL s c.op))) := fun k bk hk => by
        rw [Mem.set_ne _ _ _ _ (fun e => by rw [← e] at hk; have := I.le _ _ hk; rw [hidnM _ (Nat.le_refl _)] at this; cases this)]
        exact hk
      have I6B := I6.base hB6
      have hown6 := I6.own
      rw [sRow] at hown6
      simp -implicitDefEqProofs (maxSteps := 1000000) (disch := omega) only [↓xsP, ↓vc_seq, xsQ, xsT, xsR, xsD, ↓reduceIte, reduceCtorEq, eq_self, ne_eq, imp_self, forall_const, Nat.reduceEqDiff, Nat.reduceAdd, Nat.reduceSub, Nat.reduceMul, Nat.reduceLT, Nat.reduceLeDiff, Nat.reduceBEq, Nat.reduceDiv, Nat.reduceMod, Int.reduceToNat, Int.reduceNeg, Int.reduceAdd, Int.reduceSub, Int.reduceMul, Int.reduceEq, Int.reduceNe, Int.reduceLT, Int.reduceLE, Int.reduceGT, Int.reduceGE, g0, g1, g2, g7, g29, g30, g31, g8, g10, g56, hown6]
      refine condI_intro (fun hb1 => ?_) (fun hb1 => ?_)
      · simp -implicitDefEqProofs (maxSteps := 1000000) (disch := omega) only [↓xsP, ↓vc_seq, xsQ, xsT, xsR, xsD, ↓reduceIte, reduceCtorEq, eq_self, ne_eq, imp_self, forall_const, Nat.reduceEqDiff, Nat.reduceAdd, Nat.reduceSub, Nat.reduceMul, Nat.reduceLT, Nat.reduceLeDiff, Nat.reduceBEq, Nat.reduceDiv, Nat.reduceMod, Int.reduceToNat, Int.reduceNeg, Int.reduceAdd, Int.reduceSub, Int.reduceMul, Int.reduceEq, Int.reduceNe, Int.reduceLT, Int.reduceLE, Int.reduceGT, Int.reduceGE, g0, g1, g2, g7, g29, g30, g31, g8, g10, g56, hown6]
        obtain ⟨l, hl, hL6⟩ := ht hb1
        refine fin_ok (Mem.le_refl _) ⟨true, o6, L6, ks6, rfl, I6B, hks6, fun _ => ⟨i :: l, .cons hil hfr' (by rw [hc]; exact hgood) (by rw [hc]; exact hl), by rw [hL6]; simp⟩, (fun h => absurd h (by decide))⟩
      obtain ⟨hL6, hdead⟩ := hf hb1
      simp -implicitDefEqProofs (maxSteps := 1000000) (disch := omega) only [↓xsP, xsQ, xsT, xsR, xsD, ↓reduceIte, reduceCtorEq, eq_self, ne_eq, imp_self, forall_const, Nat.reduceEqDiff, Nat.reduceAdd, Nat.reduceSub, Nat.reduceMul, Nat.reduceLT, Nat.reduceLeDiff, Nat.reduceBEq, Nat.reduceDiv, Nat.reduceMod, Int.reduceToNat, Int.reduceNeg, Int.reduceAdd, Int.reduceSub, Int.reduceMul, Int.reduceEq, Int.reduceNe, Int.reduceLT, Int.reduceLE, Int.reduceGT, Int.reduceGE, g0, g1, g2, g7, g29, g30, g31, g8, g10, g56, hown6]
      rcases I6.ord with ⟨h, -⟩ | ⟨i6, r6, a1, rfl, a3, a4, a5⟩
      · rw [hL6] at h; simp at h
      rw [hL6] at a4 a5 hown6
      have hl6 : (L ++ [(i : Int)]).length = L.length + 1 := by simp
      rw [hl6] at a4 a5 hown6
      have wk1 : IntKind.i64.wrap (((L.length + 1 : Nat) : Int) - 1) = (L.length : Int) := by rw [wrap_in (by omega) (by omega)]; omega
      refine xwrite (fun n0 => [ (14, ids)]) [14] [] [[], [], [], [], [], [], [], [], [], [], [], [], [], [], []] (by kernel_rfl) (by kernel_rfl) (by kernel_rfl) (by kernel_rfl) (fun n0 hn0 => ⟨rfl, ?_, ?_⟩)
      · exact TOk_cons (.inl (lt_of_bnd hn0 hown6)) (TOk_nil _ _)
      · have q1 : (0 ≤ (L.length : Int)) = True := eq_true (by omega)
        have q2 : (L.length ≤ L.length + 1) = True := eq_true (by omega)
        simp -implicitDefEqProofs (maxSteps := 1000000) (disch := omega) only [↓xsP, ↓vc_seq, xsQ, xsT, xsR, xsD, ↓reduceIte, reduceCtorEq, eq_self, ne_eq, imp_self, forall_const, Nat.reduceEqDiff, Nat.reduceAdd, Nat.reduceSub, Nat.reduceMul, Nat.reduceLT, Nat.reduceLeDiff, Nat.reduceBEq, Nat.reduceDiv, Nat.reduceMod, Int.reduceToNat, Int.reduceNeg, Int.reduceAdd, Int.reduceSub, Int.reduceMul, Int.reduceEq, Int.reduceNe, Int.reduceLT, Int.reduceLE, Int.reduceGT, Int.reduceGE, g0, g1, g2, g7, g29, g30, g31, g8, g10, g56, hown6, wk1, q1, q2, Int.toNat_natCast]
        refine ⟨C.length - (i + 1), M6.set ids (.cells 58 [sRow C idm (.ms i6 0 L.length)] 0), by omega, ?_, i + 1, .ms i6 0 L.length, ks6, by omega, rfl, by simp, ⟨?_, I.n1, I.n2, I.ne, Mem.set_eq _ _ _, ?_, .inr ⟨i6, r6, ?_, rfl, ?_, by omega, ?_⟩⟩, hks6, fun j hj h1 h2 => ?_⟩
        · exact Mem.le_refl _
        · intro k bk hk
          rw [Mem.set_ne _ _ _ _ (fun e => by rw [← e, I.n1] at hk; cases hk)]
          exact I6B.le _ _ hk
        · rw [Mem.set_ne _ _ _ _ I.ne]
          exact I6B.map
        · cases hB : B i6 with
          | none => rfl
          | some bk => have := hB6 _ _ hB; rw [a1] at this; cases this
        · rw [Mem.set_ne _ _ _ _ (fun e => by rw [← e, hown6] at a3; cases a3)]
          exact a3
        · have := congrArg (List.take L.length) a5
          rw [List.take_take, Nat.min_eq_left (by omega)] at this
          rw [this, ← List.map_take, List.take_left]
        · by_cases e : j = i
          · rw [e, hc]
            exact hdead
          · exact hno j (by omega) h1 h2
  · simp -implicitDefEqProofs (maxSteps := 1000000) (disch := omega) only [↓xsP, ↓vc_seq, xsQ, xsT, xsR, xsD, ↓reduceIte, reduceCtorEq, eq_self, ne_eq, imp_self, forall_const, Nat.reduceEqDiff, Nat.reduceAdd, Nat.reduceSub, Nat.reduceMul, Nat.reduceLT, Nat.reduceLeDiff, Nat.reduceBEq, Nat.reduceDiv, Nat.reduceMod, Int.reduceToNat, Int.reduceNeg, Int.reduceAdd, Int.reduceSub, Int.reduceMul, Int.reduceEq, Int.reduceNe, Int.reduceLT, Int.reduceLE, Int.reduceGT, Int.reduceGE, f0, f1, f2, f7, f29, f30, f31]
    have hil : i = C.length := by omega
    simp -implicitDefEqProofs (maxSteps := 1000000) (disch := omega) only [↓xsP, ↓vc_seq, xsQ, xsT, xsR, xsD, ↓reduceIte, reduceCtorEq, eq_self, ne_eq, imp_self, forall_const, Nat.reduceEqDiff, Nat.reduceAdd, Nat.reduceSub, Nat.reduceMul, Nat.reduceLT, Nat.reduceLeDiff, Nat.reduceBEq, Nat.reduceDiv, Nat.reduceMod, Int.reduceToNat, Int.reduceNeg, Int.reduceAdd, Int.reduceSub, Int.reduceMul, Int.reduceEq, Int.reduceNe, Int.reduceLT, Int.reduceLE, Int.reduceGT, Int.reduceGE, f0, f1, f2, f7, f29, f30, f31, hown]
    rw [mapUpd_txt (P := Go.Proofs.Tryd.prog) (M := M2) (t := 56) ⟨⟨_, _, _, _, _, ti_56, rfl, ti_9, rfl, ti_3, rfl⟩⟩ I.map (stTxt d s)]
    simp -implicitDefEqProofs (maxSteps := 1000000) (disch := omega) only [↓xsP, ↓vc_seq, xsQ, xsT, xsR, xsD, ↓reduceIte, reduceCtorEq, eq_self, ne_eq, imp_self, forall_const, Nat.reduceEqDiff, Nat.reduceAdd, Nat.reduceSub, Nat.reduceMul, Nat.reduceLT, Nat.reduceLeDiff, Nat.reduceBEq, Nat.reduceDiv, Nat.reduceMod, Int.reduceToNat, Int.reduceNeg, Int.reduceAdd, Int.reduceSub, Int.reduceMul, Int.reduceEq, Int.reduceNe, Int.reduceLT, Int.reduceLE, Int.reduceGT, Int.reduceGE]
    have hord : ∀ X : Blk, (L = [] ∧ o = .nils) ∨ ∃ idO rows, B idO = none ∧ o = .ms idO 0 L.length ∧ (M2.set idm X) idO = some (.cells 3 rows 0) ∧ L.length ≤ rows.length ∧ rows.take L.length = L.map irow := fun X => by
      rcases I.ord with h | ⟨idO, rows, a1, a2, a3, a4⟩
      · exact .inl h
      · exact .inr ⟨idO, rows, a1, a2, by rw [Mem.set_ne _ _ _ _ (fun e => by rw [← e, I.map] at a3; cases a3)]; exact a3, a4⟩
    have hdd : Dead C d s := by
      rintro ⟨l, hl⟩
      cases hl with
      | nil h => exact h hdue
      | cons hi hf ha h => exact hno _ (by omega) hf ha ⟨_, h⟩
    refine fin_ok (Mem.le_refl _) ⟨false, o, L, kput ks (stTxt d s), rfl, ⟨fun k bk hk => ?_, I.n1, I.n2, I.ne, by rw [Mem.set_ne _ _ _ _ (fun e => I.ne e.symm)]; exact I.own, Mem.set_eq _ _ _, hord _⟩, fun x hx => ?_, (fun h => absurd h (by decide)), fun _ => ⟨rfl, hdd⟩⟩
    · rw [Mem.set_ne _ _ _ _ (fun e => by rw [← e, I.n2] at hk; cases hk)]
      exact I.le _ _ hk
    · rcases kput_mem.1 hx with h | h
      · exact hks x h
      · exact ⟨d, s, h, hdd⟩
end Go.X
set_option linter.unusedVariables false
set_option linter.unusedSimpArgs false
set_option maxHeartbeats 20000000
set_option maxRecDepth 100000
namespace Go.X
open Go.Proofs.Tryd (prog)

/-- What may be asked: a beginning, a history, not too many calls. -/
def Askable (b : List Pr) (h : List Evt) : Prop := Rises b ∧ okP h = true ∧ (callsP h).length ≤ 16
def ixs (l : List Nat) : List Int := l.map fun i : Nat => (i : Int)
inductive Found (b : List Pr) (h : List Evt) : List Int → Bool → Int → Prop
  | bad (hn : ¬ Askable b h) : Found b h [] false 1
  | none (ha : Askable b h) (hd : Dead (callsP h) 0 (putL b)) : Found b h [] false 0
  | some (ha : Askable b h) {l : List Nat} (hc : Comp (callsP h) 0 (putL b) l) : Found b h (ixs l) true 0
theorem putL_ok {b : List Pr} (hb : AllOk b) : AllOk (putL b) := by
  have key : ∀ (l s : List Pr), AllOk l → AllOk s → AllOk (l.foldl (fun s p => doL s (putOp p)) s) := by
    intro l
    induction l with
    | nil => intro s _ h; exact h
    | cons p l ih =>
      intro s h1 h2
      exact ih _ (fun x hx => h1 x (by simp [hx])) (h2.doL (h1 p (by simp)))
  exact key b [] hb (fun x hx => by cases hx)
theorem lfind_spec (b : List Pr) (h : List Evt) (hb : b.length ≤ 1000) (hbo : AllOk b) (hs : Small h) (hho : OpsOk (callsP h)) (M : Mem) :
    XCalls Go.Proofs.Tryd.prog 14 [.l (.sl (b.map Pr.row)), .l (.sl (h.map Evt.row))] M fun r M' => M' = M ∧ ∃ l ok e, Found b h l ok e ∧ r = .tup [.l (.sl (l.map irow)), .l (.bool ok), .l (.int .i64 e)] := by
  refine xcalls_intro (rs := [.tmp 4, .tmp 5, .tmp 6]) Go.Proofs.Tryd.func14 rfl (by kernel_rfl) rfl rfl (by kernel_rfl) (by simp) ?_
  simp -implicitDefEqProofs (maxSteps := 1000000) (disch := omega) only [↓xsP, ↓vc_seq, xsQ, xsT, xsR, xsD, ↓reduceIte, reduceCtorEq, eq_self, ne_eq, imp_self, forall_const, Nat.reduceEqDiff, Nat.reduceAdd, Nat.reduceSub, Nat.reduceMul, Nat.reduceLT, Nat.reduceLeDiff, Nat.reduceBEq, Nat.reduceDiv, Nat.reduceMod, Int.reduceToNat, Int.reduceNeg, Int.reduceAdd, Int.reduceSub, Int.reduceMul, Int.reduceEq, Int.reduceNe, Int.reduceLT, Int.reduceLE, Int.reduceGT, Int.reduceGE]
  refine call_of (pcalls_spec h hs _) ?_
  simp -implicitDefEqProofs (maxSteps := 1000000) (disch := omega) only [↓xsP, ↓vc_seq, xsQ, xsT, xsR, xsD, ↓reduceIte, reduceCtorEq, eq_self, ne_eq, imp_self, forall_const, Nat.reduceEqDiff, Nat.reduceAdd, Nat.reduceSub, Nat.reduceMul, Nat.reduceLT, Nat.reduceLeDiff, Nat.reduceBEq, Nat.reduceDiv, Nat.reduceMod, Int.reduceToNat, Int.reduceNeg, Int.reduceAdd, Int.reduceSub, Int.reduceMul, Int.reduceEq, Int.reduceNe, Int.reduceLT, Int.reduceLE, Int.reduceGT, Int.reduceGE]
  refine newI_intro fun idm hidm => ?_
  simp -implicitDefEqProofs (maxSteps := 1000000) (disch := omega) only [↓xsP, ↓vc_seq, xsQ, xsT, xsR, xsD, ↓reduceIte, reduceCtorEq, eq_self, ne_eq, imp_self, forall_const, Nat.reduceEqDiff, Nat.reduceAdd, Nat.reduceSub, Nat.reduceMul, Nat.reduceLT, Nat.reduceLeDiff, Nat.reduceBEq, Nat.reduceDiv, Nat.reduceMod, Int.reduceToNat, Int.reduceNeg, Int.reduceAdd, Int.reduceSub, Int.reduceMul, Int.reduceEq, Int.reduceNe, Int.reduceLT, Int.reduceLE, Int.reduceGT, Int.reduceGE]
  refine newI_intro fun ids hids => ?_
  simp -implicitDefEqProofs (maxSteps := 1000000) (disch := omega) only [↓xsP, ↓vc_seq, xsQ, xsT, xsR, xsD, ↓reduceIte, reduceCtorEq, eq_self, ne_eq, imp_self, forall_const, Nat.reduceEqDiff, Nat.reduceAdd, Nat.reduceSub, Nat.reduceMul, Nat.reduceLT, Nat.reduceLeDiff, Nat.reduceBEq, Nat.reduceDiv, Nat.reduceMod, Int.reduceToNat, Int.reduceNeg, Int.reduceAdd, Int.reduceSub, Int.reduceMul, Int.reduceEq, Int.reduceNe, Int.reduceLT, Int.reduceLE, Int.reduceGT, Int.reduceGE]
  obtain ⟨kms, hidsM⟩ := bnd_new hids
  have hle : ∀ X Y : Blk, M.le ((M.set idm X).set ids Y) := fun X Y => le_new (le_new (Mem.le_refl _) hidm) hidsM
  have hbad : ∀ (X Y : Blk), ¬ Askable b h → @finI Go.Proofs.Tryd.prog (.tup [.l .nils, .l (.bool false), .l (.int .i64 1)]) ((M.set idm X).set ids Y) ⟨fun r M' => M' = M ∧ ∃ l ok e, Found b h l ok e ∧ r = .tup [.l (.sl (l.map irow)), .l (.bool ok), .l (.int .i64 e)]⟩ := fun X Y hn => finI_of (XFin.wk (XFin.le (hle _ _) ⟨rfl, [], false, 1, .bad hn, rfl⟩))
  refine call_of (may_spec b (by omega) _) ?_
  by_cases hR : Rises b
  rotate_left
  · rw [bof_false hR]
    simp -implicitDefEqProofs (maxSteps := 1000000) (disch := omega) only [↓xsP, ↓vc_seq, xsQ, xsT, xsR, xsD, ↓reduceIte, reduceCtorEq, eq_self, ne_eq, imp_self, forall_const, Nat.reduceEqDiff, Nat.reduceAdd, Nat.reduceSub, Nat.reduceMul, Nat.reduceLT, Nat.reduceLeDiff, Nat.reduceBEq, Nat.reduceDiv, Nat.reduceMod, Int.reduceToNat, Int.reduceNeg, Int.reduceAdd, Int.reduceSub, Int.reduceMul, Int.reduceEq, Int.reduceNe, Int.reduceLT, Int.reduceLE, Int.reduceGT, Int.reduceGE]
    exact hbad _ _ fun h => hR h.1
  rw [bof_true hR]
  simp -implicitDefEqProofs (maxSteps := 1000000) (disch := omega) only [↓xsP, ↓vc_seq, xsQ, xsT, xsR, xsD, ↓reduceIte, reduceCtorEq, eq_self, ne_eq, imp_self, forall_const, Nat.reduceEqDiff, Nat.reduceAdd, Nat.reduceSub, Nat.reduceMul, Nat.reduceLT, Nat.reduceLeDiff, Nat.reduceBEq, Nat.reduceDiv, Nat.reduceMod, Int.reduceToNat, Int.reduceNeg, Int.reduceAdd, Int.reduceSub, Int.reduceMul, Int.reduceEq, Int.reduceNe, Int.reduceLT, Int.reduceLE, Int.reduceGT, Int.reduceGE]
  refine call_of (pmay_spec h hs _) ?_
  cases hok : okP h with
  | false =>
    simp -implicitDefEqProofs (maxSteps := 1000000) (disch := omega) only [↓xsP, ↓vc_seq, xsQ, xsT, xsR, xsD, ↓reduceIte, reduceCtorEq, eq_self, ne_eq, imp_self, forall_const, Nat.reduceEqDiff, Nat.reduceAdd, Nat.reduceSub, Nat.reduceMul, Nat.reduceLT, Nat.reduceLeDiff, Nat.reduceBEq, Nat.reduceDiv, Nat.reduceMod, Int.reduceToNat, Int.reduceNeg, Int.reduceAdd, Int.reduceSub, Int.reduceMul, Int.reduceEq, Int.reduceNe, Int.reduceLT, Int.reduceLE, Int.reduceGT, Int.reduceGE]
    exact hbad _ _ fun hh => by have := hh.2.1; rw [hok] at this; cases this
  | true =>
  simp -implicitDefEqProofs (maxSteps := 1000000) (disch := omega) only [↓xsP, ↓vc_seq, xsQ, xsT, xsR, xsD, ↓reduceIte, reduceCtorEq, eq_self, ne_eq, imp_self, forall_const, Nat.reduceEqDiff, Nat.reduceAdd, Nat.reduceSub, Nat.reduceMul, Nat.reduceLT, Nat.reduceLeDiff, Nat.reduceBEq, Nat.reduceDiv, Nat.reduceMod, Int.reduceToNat, Int.reduceNeg, Int.reduceAdd, Int.reduceSub, Int.reduceMul, Int.reduceEq, Int.reduceNe, Int.reduceLT, Int.reduceLE, Int.reduceGT, Int.reduceGE]
  refine condI_prop (fun hlt => ?_) (fun hlt => ?_)
  · simp -implicitDefEqProofs (maxSteps := 1000000) (disch := omega) only [↓xsP, ↓vc_seq, xsQ, xsT, xsR, xsD, ↓reduceIte, reduceCtorEq, eq_self, ne_eq, imp_self, forall_const, Nat.reduceEqDiff, Nat.reduceAdd, Nat.reduceSub, Nat.reduceMul, Nat.reduceLT, Nat.reduceLeDiff, Nat.reduceBEq, Nat.reduceDiv, Nat.reduceMod, Int.reduceToNat, Int.reduceNeg, Int.reduceAdd, Int.reduceSub, Int.reduceMul, Int.reduceEq, Int.reduceNe, Int.reduceLT, Int.reduceLE, Int.reduceGT, Int.reduceGE]
    exact hbad _ _ fun h => by have := h.2.2; omega
  have hask : Askable b h := ⟨hR, hok, by omega⟩
  simp -implicitDefEqProofs (maxSteps := 1000000) (disch := omega) only [↓xsP, ↓vc_seq, xsQ, xsT, xsR, xsD, ↓reduceIte, reduceCtorEq, eq_self, ne_eq, imp_self, forall_const, Nat.reduceEqDiff, Nat.reduceAdd, Nat.reduceSub, Nat.reduceMul, Nat.reduceLT, Nat.reduceLeDiff, Nat.reduceBEq, Nat.reduceDiv, Nat.reduceMod, Int.reduceToNat, Int.reduceNeg, Int.reduceAdd, Int.reduceSub, Int.reduceMul, Int.reduceEq, Int.reduceNe, Int.reduceLT, Int.reduceLE, Int.reduceGT, Int.reduceGE]
  refine callI_of ((new_spec b (by omega) _).mono ?_)
  rintro _ _ ⟨idp, hidp, rfl, rfl⟩
  obtain ⟨ksp, hidpM⟩ := bnd_new hidp
  obtain ⟨kmp, hidpM⟩ := bnd_new hidpM
  have hpl := putL_len b
  have I : SIn (M.set idp (mapB (putL b))) (((M.set idm (.map [])).set ids (.cells 58 [sRow (callsP h) idm .nils] 0)).set idp (mapB (putL b))) ids idm .nils (callsP h) [] [] := by
    refine ⟨fun k bk hk => ?_, ?_, ?_, by omega, ?_, ?_, .inl ⟨rfl, rfl⟩⟩
    · rw [Mem.set_app] at hk ⊢
      by_cases q : idp = k
      · rw [if_pos q] at hk ⊢
        exact hk
      · rw [if_neg q] at hk ⊢
        exact hle _ _ _ _ hk
    · rw [Mem.set_ne _ _ _ _ (by omega)]
      exact hidsM _ (Nat.le_refl _)
    · rw [Mem.set_ne _ _ _ _ (by omega)]
      exact hidm _ (Nat.le_refl _)
    · rw [Mem.set_ne _ _ _ _ (by omega), Mem.set_eq]
    · rw [Mem.set_ne _ _ _ _ (by omega), Mem.set_ne _ _ _ _ (by omega), Mem.set_eq]
      rfl
  rw [sRow] at I
  simp -implicitDefEqProofs (maxSteps := 1000000) (disch := omega) only [↓xsP, ↓vc_seq, xsQ, xsT, xsR, xsD, ↓reduceIte, reduceCtorEq, eq_self, ne_eq, imp_self, forall_const, Nat.reduceEqDiff, Nat.reduceAdd, Nat.reduceSub, Nat.reduceMul, Nat.reduceLT, Nat.reduceLeDiff, Nat.reduceBEq, Nat.reduceDiv, Nat.reduceMod, Int.reduceToNat, Int.reduceNeg, Int.reduceAdd, Int.reduceSub, Int.reduceMul, Int.reduceEq, Int.reduceNe, Int.reduceLT, Int.reduceLE, Int.reduceGT, Int.reduceGE]
  refine callI_of ((sgoes_spec (callsP h) (by omega) hho 65536 0 (by omega) (by omega) (putL b) (putL_ok hbo) (by omega) _ _ ids idm idp _ [] [] (by simp) (fun k hk => by cases hk) I (Mem.set_eq _ _ _)).mono ?_)
  rintro _ M6 ⟨bo, o6, L6, ks6, rfl, I6, -, ht, hf⟩
  have hown6 := I6.own
  rw [sRow] at hown6
  have hle6 : M.le M6 := fun k bk hk => I6.le _ _ (le_new (b := mapB (putL b)) (Mem.le_refl _) hidpM _ _ hk)
  simp -implicitDefEqProofs (maxSteps := 1000000) (disch := omega) only [↓xsP, ↓vc_seq, xsQ, xsT, xsR, xsD, ↓reduceIte, reduceCtorEq, eq_self, ne_eq, imp_self, forall_const, Nat.reduceEqDiff, Nat.reduceAdd, Nat.reduceSub, Nat.reduceMul, Nat.reduceLT, Nat.reduceLeDiff, Nat.reduceBEq, Nat.reduceDiv, Nat.reduceMod, Int.reduceToNat, Int.reduceNeg, Int.reduceAdd, Int.reduceSub, Int.reduceMul, Int.reduceEq, Int.reduceNe, Int.reduceLT, Int.reduceLE, Int.reduceGT, Int.reduceGE]
  refine condI_intro (fun hb1 => ?_) (fun hb1 => ?_)
  · simp -implicitDefEqProofs (maxSteps := 1000000) (disch := omega) only [↓xsP, ↓vc_seq, xsQ, xsT, xsR, xsD, ↓reduceIte, reduceCtorEq, eq_self, ne_eq, imp_self, forall_const, Nat.reduceEqDiff, Nat.reduceAdd, Nat.reduceSub, Nat.reduceMul, Nat.reduceLT, Nat.reduceLeDiff, Nat.reduceBEq, Nat.reduceDiv, Nat.reduceMod, Int.reduceToNat, Int.reduceNeg, Int.reduceAdd, Int.reduceSub, Int.reduceMul, Int.reduceEq, Int.reduceNe, Int.reduceLT, Int.reduceLE, Int.reduceGT, Int.reduceGE]
    have hb2 : bo = false := by simpa using hb1
    obtain ⟨-, hd⟩ := hf hb2
    exact finI_of (XFin.wk (XFin.le hle6 ⟨rfl, [], false, 0, .none hask hd, rfl⟩))
  · have hb2 : bo = true := by simpa using hb1
    obtain ⟨l, hl, hL6⟩ := ht hb2
    simp -implicitDefEqProofs (maxSteps := 1000000) (disch := omega) only [↓xsP, ↓vc_seq, xsQ, xsT, xsR, xsD, ↓reduceIte, reduceCtorEq, eq_self, ne_eq, imp_self, forall_const, Nat.reduceEqDiff, Nat.reduceAdd, Nat.reduceSub, Nat.reduceMul, Nat.reduceLT, Nat.reduceLeDiff, Nat.reduceBEq, Nat.reduceDiv, Nat.reduceMod, Int.reduceToNat, Int.reduceNeg, Int.reduceAdd, Int.reduceSub, Int.reduceMul, Int.reduceEq, Int.reduceNe, Int.reduceLT, Int.reduceLE, Int.reduceGT, Int.reduceGE, hown6]
    rw [List.nil_append] at hL6
    have hF : Found b h (ixs l) true 0 := .some hask hl
    rcases I6.ord with ⟨h1, rfl⟩ | ⟨i6, r6, a1, rfl, a3, a4, a5⟩
    · refine finI_of (XFin.wk (XFin.le hle6 ⟨rfl, ixs l, true, 0, hF, ?_⟩))
      rw [ixs, ← hL6, h1]
      rfl
    · refine finI_of (XFin.frz i6 a3 (XFin.le (fun k bk hk => ?_) ⟨rfl, ixs l, true, 0, hF, ?_⟩))
      · rw [Mem.set_ne _ _ _ _ (fun e => ?_)]
        · exact hle6 _ _ hk
        · rw [← e] at hk
          have := le_new (Mem.le_refl _) hidpM (b := mapB (putL b)) _ _ hk
          rw [a1] at this
          cases this
      · rw [hL6] at a4 a5
        simp only [frzA, List.map_cons, List.map_nil, frz1, frzL, Nat.zero_add, hL6]
        rw [if_pos ⟨trivial, a4⟩, List.drop_zero, a5]
        rfl
theorem lany_spec (b : List Pr) (h : List Evt) (hb : b.length ≤ 1000) (hbo : AllOk b) (hs : Small h) (hho : OpsOk (callsP h)) (M : Mem) :
    XCalls Go.Proofs.Tryd.prog 10 [.l (.sl (b.map Pr.row)), .l (.sl (h.map Evt.row))] M fun r M' => M' = M ∧ ∃ l ok e, Found b h l ok e ∧ r = .l (.bool ok) := by
  refine xcalls_intro (rs := [.tmp 4]) Go.Proofs.Tryd.func10 rfl (by kernel_rfl) rfl rfl (by kernel_rfl) (by simp) ?_
  simp -implicitDefEqProofs (maxSteps := 1000000) (disch := omega) only [↓xsP, ↓vc_seq, xsQ, xsT, xsR, xsD, ↓reduceIte, reduceCtorEq, eq_self, ne_eq, imp_self, forall_const, Nat.reduceEqDiff, Nat.reduceAdd, Nat.reduceSub, Nat.reduceMul, Nat.reduceLT, Nat.reduceLeDiff, Nat.reduceBEq, Nat.reduceDiv, Nat.reduceMod, Int.reduceToNat, Int.reduceNeg, Int.reduceAdd, Int.reduceSub, Int.reduceMul, Int.reduceEq, Int.reduceNe, Int.reduceLT, Int.reduceLE, Int.reduceGT, Int.reduceGE]
  refine callI_of ((lfind_spec b h hb hbo hs hho _).mono ?_)
  rintro _ _ ⟨rfl, l, ok, e, hF, rfl⟩
  simp -implicitDefEqProofs (maxSteps := 1000000) (disch := omega) only [↓xsP, ↓vc_seq, xsQ, xsT, xsR, xsD, ↓reduceIte, reduceCtorEq, eq_self, ne_eq, imp_self, forall_const, Nat.reduceEqDiff, Nat.reduceAdd, Nat.reduceSub, Nat.reduceMul, Nat.reduceLT, Nat.reduceLeDiff, Nat.reduceBEq, Nat.reduceDiv, Nat.reduceMod, Int.reduceToNat, Int.reduceNeg, Int.reduceAdd, Int.reduceSub, Int.reduceMul, Int.reduceEq, Int.reduceNe, Int.reduceLT, Int.reduceLE, Int.reduceGT, Int.reduceGE]
  exact fin_ok (Mem.le_refl _) ⟨rfl, l, ok, e, hF, rfl⟩
end Go.X
set_option linter.unusedVariables false
set_option linter.unusedSimpArgs false
set_option maxRecDepth 100000
namespace Go.X

theorem or_bit {d i j : Nat} : (d ||| 2 ^ i).testBit j = (d.testBit j || decide (i = j)) := by
  rw [Nat.testBit_or, Nat.testBit_two_pow]
theorem or_bit_f {d i j : Nat} (h : (d ||| 2 ^ i).testBit j = false) : d.testBit j = false ∧ j ≠ i := by
  rw [or_bit, Bool.or_eq_false_iff] at h
  exact ⟨h.1, fun e => by rw [e] at h; simp at h⟩
theorem clAt_n (C : List Cl) (n : Nat) : clAt C (n : Int) = C.getD n default := by rw [clAt, Int.toNat_natCast]
theorem comp_sound {C : List Cl} {d : Nat} {s : List Pr} {l : List Nat} (h : Comp C d s l) :
    (∀ i ∈ l, i < C.length ∧ d.testBit i = false ∧ ¬ neverC (C.getD i default)) ∧ l.Nodup ∧ (∀ j, j < C.length → d.testBit j = false → mustC (C.getD j default) → j ∈ l) ∧
    (l.Pairwise fun i j => ¬ befP (C.getD j default) (C.getD i default)) ∧ (goesO C (ixs l) s).isSome = true := by
  induction h with
  | nil h =>
    refine ⟨(fun i hi => absurd hi List.not_mem_nil), List.nodup_nil, fun j hj hb hm => ?_, List.Pairwise.nil, rfl⟩
    exact absurd ⟨j, hj, hb, hm⟩ h
  | @cons d i s l hi hf ha h ih =>
    obtain ⟨h1, h2, h3, h4, h5⟩ := ih
    refine ⟨fun j hj => ?_, ?_, fun j hj hb hm => ?_, ?_, ?_⟩
    · rcases List.mem_cons.1 hj with rfl | hj
      · exact ⟨hi, hf.2⟩
      · obtain ⟨a1, a2, a3⟩ := h1 j hj
        exact ⟨a1, (or_bit_f a2).1, a3⟩
    · rw [List.nodup_cons]
      refine ⟨fun hm => ?_, h2⟩
      exact (or_bit_f (h1 i hm).2.1).2 rfl
    · by_cases e : j = i
      · rw [e]; simp
      · refine List.mem_cons_of_mem _ (h3 j hj ?_ hm)
        rw [or_bit, hb]
        simp [Ne.symm e]
    · rw [List.pairwise_cons]
      refine ⟨fun j hj hbf => ?_, h4⟩
      obtain ⟨a1, a2, a3⟩ := h1 j hj
      refine hf.1 j a1 (or_bit_f a2).1 ⟨hbf.1, ?_⟩ hbf
      by_cases e : (C.getD j default).ans.err = 0
      · exact e
      · exact absurd ⟨hbf.1, e⟩ a3
    · rw [ixs, List.map_cons, goesO, clAt_n, if_neg (fun hh => hh.2 (ha hh.1))]
      exact h5
theorem comp_complete {C : List Cl} (hirr : ∀ i, i < C.length → ¬ befP (C.getD i default) (C.getD i default)) : ∀ (l : List Nat) (d : Nat) (s : List Pr),
    (∀ i ∈ l, i < C.length ∧ d.testBit i = false ∧ ¬ neverC (C.getD i default)) → l.Nodup → (∀ j, j < C.length → d.testBit j = false → mustC (C.getD j default) → j ∈ l) →
    (l.Pairwise fun i j => ¬ befP (C.getD j default) (C.getD i default)) → (goesO C (ixs l) s).isSome = true → ∃ l', Comp C d s l'
  | [], d, s, h1, h2, h3, h4, h5 => ⟨[], .nil fun ⟨j, a, b, c⟩ => absurd (h3 j a b c) List.not_mem_nil⟩
  | i :: l, d, s, h1, h2, h3, h4, h5 => by
    by_cases hd : dueP C d
    · rw [List.nodup_cons] at h2
      rw [List.pairwise_cons] at h4
      rw [ixs, List.map_cons, goesO, clAt_n] at h5
      obtain ⟨a1, a2, a3⟩ := h1 i (by simp)
      by_cases hg : 0 ≤ (C.getD i default).fin ∧ doA s (C.getD i default).op ≠ (C.getD i default).ans
      · rw [if_pos hg] at h5
        cases h5
      · rw [if_neg hg] at h5
        obtain ⟨l', hl'⟩ := comp_complete hirr l (d ||| 2 ^ i) (doL s (C.getD i default).op) (fun j hj => by
          obtain ⟨b1, b2, b3⟩ := h1 j (by simp [hj])
          refine ⟨b1, ?_, b3⟩
          rw [or_bit, b2]
          have : i ≠ j := fun e => h2.1 (e ▸ hj)
          simp [this]) h2.2 (fun j hj hb hm => by
          obtain ⟨b1, b2⟩ := or_bit_f hb
          exact (List.mem_cons.1 (h3 j hj b1 hm)).resolve_left b2) h4.2 h5
        refine ⟨i :: l', .cons a1 ⟨fun j hj hb hm hbf => ?_, a2, a3⟩ (fun h0 => ?_) hl'⟩
        · rcases List.mem_cons.1 (h3 j hj hb hm) with e | hjl
          · rw [e] at hbf
            exact hirr i a1 hbf
          · exact h4.1 j hjl hbf
        · by_cases e : doA s (C.getD i default).op = (C.getD i default).ans
          · exact e
          · exact absurd ⟨h0, e⟩ hg
    · exact ⟨[], .nil hd⟩
theorem calls_irr {h : List Evt} (hok : okP h = true) : ∀ i, i < (callsP h).length → ¬ befP ((callsP h).getD i default) ((callsP h).getD i default) := by
  obtain ⟨ms, hr, I⟩ := okP_inv hok
  rintro i hi ⟨h1, h2⟩
  rcases I.fin i hi with e | ⟨f, e, e2, _⟩
  · simp only at e
    omega
  · simp only at e e2
    omega
theorem ixs_mem {l : List Nat} {x : Int} : x ∈ ixs l ↔ ∃ i ∈ l, (i : Int) = x := by
  rw [ixs, List.mem_map]
theorem comp_right {b : List Pr} {h : List Evt} {l : List Nat} (hb : Rises b) (hok : okP h = true) (hc : Comp (callsP h) 0 (putL b) l) : (rightO b h (ixs l)).isSome = true := by
  obtain ⟨h1, h2, h3, h4, h5⟩ := comp_sound hc
  have hn : namedB (callsP h) (ixs l) = true := bof_true ⟨fun x hx => ?_, ?_, fun j hj h0 => ⟨fun hm => ?_, fun he => ?_⟩⟩
  have ht : timelyB (callsP h) (ixs l) = true := by
    rw [timely_pw, bof_iff, ixs, List.pairwise_map]
    refine h4.imp fun {a b} hab => ?_
    rw [clAt_n, clAt_n]
    exact hab
  · rw [right_mk (bof_true hb) hok hn ht]
    exact h5
  · obtain ⟨i, hi, rfl⟩ := ixs_mem.1 hx
    have := (h1 i hi).1
    omega
  · rw [ixs]
    exact List.Pairwise.map (R := (· ≠ ·)) _ (fun a b h e => h (by omega)) h2
  · obtain ⟨i, hi, e⟩ := ixs_mem.1 hm
    have e : i = j := by omega
    subst e
    by_cases he : ((callsP h).getD i default).ans.err = 0
    · exact he
    · exact absurd ⟨h0, he⟩ (h1 i hi).2.2
  · exact ixs_mem.2 ⟨j, h3 j hj (Nat.zero_testBit j) ⟨h0, he⟩, rfl⟩
theorem right_comp {b : List Pr} {h : List Evt} {l : List Int} (hr : (rightO b h l).isSome = true) : Rises b ∧ okP h = true ∧ ∃ l', Comp (callsP h) 0 (putL b) l' := by
  obtain ⟨s, hs⟩ := Option.isSome_iff_exists.1 hr
  obtain ⟨g1, g2, g3, g4, g5⟩ := right_inv hs
  obtain ⟨h1, h2, h3⟩ := bof_iff.1 g3
  rw [timely_pw, bof_iff] at g4
  refine ⟨bof_iff.1 g1, g2, ?_⟩
  obtain ⟨m, rfl⟩ : ∃ m : List Nat, l = ixs m := ⟨l.map Int.toNat, by
    rw [ixs, List.map_map]
    conv => lhs; rw [← List.map_id l]
    refine List.map_congr_left fun x hx => ?_
    have := (h1 x hx).1
    simp only [id, Function.comp]
    omega⟩
  refine comp_complete (calls_irr g2) m 0 (putL b) (fun i hi => ?_) ?_ (fun j hj _ hm => ?_) ?_ (by rw [g5]; rfl)
  · have := h1 i (ixs_mem.2 ⟨i, hi, rfl⟩)
    refine ⟨by omega, Nat.zero_testBit i, fun hn => ?_⟩
    exact hn.2 ((h3 i (by omega) hn.1).1 (ixs_mem.2 ⟨i, hi, rfl⟩))
  · rw [ixs] at h2
    exact (List.Pairwise.of_map (S := (· ≠ ·)) (fun i : Nat => (i : Int)) (fun a b h e => h (by rw [e])) h2)
  · obtain ⟨i, hi, e⟩ := ixs_mem.1 ((h3 j hj hm.1).2 hm.2)
    have e : i = j := by omega
    exact e ▸ hi
  · rw [ixs, List.pairwise_map] at g4
    refine g4.imp fun {a b} hab => ?_
    rw [clAt_n, clAt_n] at hab
    exact hab
/-- What was found is right; where nothing is found nothing is. -/
theorem found_right {b : List Pr} {h : List Evt} {l : List Int} {e : Int} (hf : Found b h l true e) : (rightO b h l).isSome = true ∧ e = 0 ∧ Askable b h := by
  cases hf with
  | some ha hc => exact ⟨comp_right ha.1 ha.2.1 hc, rfl, ha⟩
/-- Where there is a right order, one is found. -/
theorem found_of {b : List Pr} {h : List Evt} {l m : List Int} {ok : Bool} {e : Int} (hf : Found b h l ok e) (hlen : (callsP h).length ≤ 16) (hr : (rightO b h m).isSome = true) : ok = true := by
  obtain ⟨h1, h2, h3⟩ := right_comp hr
  cases hf with
  | bad hn => exact absurd ⟨h1, h2, hlen⟩ hn
  | none _ hd => exact absurd h3 hd
  | some _ _ => rfl
end Go.X
set_option linter.unusedVariables false
set_option linter.unusedSimpArgs false
set_option maxHeartbeats 20000000
set_option maxRecDepth 100000
namespace Go.X
open Go.Proofs.Tryd (prog)

def psum (h : List Evt) : Nat := (h.map fun x => x.ans.pairs.length).sum
def LightOk (h : List Evt) : Prop := h.length ≤ 200 ∧ psum h ≤ 3000
theorem psum_mem {h : List Evt} {x : Evt} (hx : x ∈ h) : x.ans.pairs.length ≤ psum h := by
  induction h with
  | nil => cases hx
  | cons y r ih =>
    simp only [psum, List.map_cons, List.sum_cons] at ih ⊢
    rcases List.mem_cons.1 hx with rfl | hx
    · omega
    · have := ih hx
      omega
theorem LightOk.small {h : List Evt} (hl : LightOk h) : Small h := ⟨by have := hl.1; omega, fun x hx => by have := psum_mem hx; have := hl.2; omega⟩
end Go.X
set_option linter.unusedVariables false
set_option linter.unusedSimpArgs false
set_option maxHeartbeats 20000000
set_option maxRecDepth 100000
namespace Go.X
open Go.Proofs.Tryd (prog)

theorem found9 {l : List Int} {ok : Bool} {e : Int} (hf : Found [] hist9 l ok e) : ok = true ∧ e = 0 ∧ l = [0, 1] := by
  have hok : ok = true := found_of hf (by rw [callsP_hist9]; decide) (m := [0, 1]) (by rw [right9a]; rfl)
  subst hok
  obtain ⟨h1, h2, -⟩ := found_right hf
  refine ⟨rfl, h2, ?_⟩
  obtain ⟨s, hs⟩ := Option.isSome_iff_exists.1 h1
  obtain ⟨_, _, h3, _, _⟩ := right_inv hs
  obtain ⟨g1, g2, g3⟩ := bof_iff.1 h3
  rw [callsP_hist9] at g1 g3
  have hm : (1 : Int) ∈ l := (g3 1 (by decide) (by decide)).2 rfl
  have hC : (C9.length : Int) = 2 := rfl
  match l, h1, g1, g2, hm with
  | [], _, _, _, hm => cases hm
  | x :: r, h1, g1, g2, hm =>
    have hx := g1 x (by simp)
    rw [hC] at hx
    have hx0 : x = 0 := by
      by_cases e : x = 1
      · rw [e, right9b] at h1
        cases h1
      · omega
    subst hx0
    rw [List.nodup_cons] at g2
    have hr : ∀ y ∈ r, y = 1 := fun y hy => by
      have := g1 y (by simp [hy])
      rw [hC] at this
      have h0 : y ≠ 0 := fun e => g2.1 (e ▸ hy)
      omega
    match r, g2.2, hr, hm with
    | [], _, _, hm => simp at hm
    | [y], _, hr, _ => rw [hr y (by simp)]
    | y :: z :: t, hn, hr, _ =>
      rw [hr y (by simp), hr z (by simp)] at hn
      simp at hn
def hist9g : List Evt := [⟨1, false, ⟨4, 1, 0, 0⟩, ans0⟩, ⟨1, true, ⟨4, 1, 0, 0⟩, ⟨0, true, ⟨1, 5⟩, 0, []⟩⟩]
def C9g : List Cl := [⟨1, 0, 1, ⟨4, 1, 0, 0⟩, ⟨0, true, ⟨1, 5⟩, 0, []⟩⟩]
theorem readP_hist9g : readP hist9g = some C9g := by
  simp [readP, hist9g, C9g, rrun, rstep, iget, iput, idel, mayOpB, List.getD]
theorem callsP_hist9g : callsP hist9g = C9g := by rw [callsP, readP_hist9g]; rfl
theorem small9g : Small hist9g := by
  refine ⟨by decide, fun x hx => ?_⟩
  simp only [hist9g, List.mem_cons, List.not_mem_nil, or_false] at hx
  rcases hx with rfl | rfl <;> decide
theorem found9g {l : List Int} {ok : Bool} {e : Int} (hf : Found [] hist9g l ok e) : ok = false := by
  cases ok with
  | false => rfl
  | true =>
    exfalso
    obtain ⟨h1, h2, -⟩ := found_right hf
    obtain ⟨s, hs⟩ := Option.isSome_iff_exists.1 h1
    obtain ⟨_, _, h3, _, h5⟩ := right_inv hs
    obtain ⟨g1, g2, g3⟩ := bof_iff.1 h3
    rw [callsP_hist9g] at g1 g3 h5
    have hm : (0 : Int) ∈ l := (g3 0 (by decide) (by decide)).2 rfl
    have hC : (C9g.length : Int) = 1 := rfl
    match l, g1, hm, h5 with
    | [], _, hm, _ => cases hm
    | x :: r, g1, _, h5 =>
      have hx := g1 x (by simp)
      rw [hC] at hx
      have hx0 : x = 0 := by omega
      subst hx0
      have hne : doA [] (clAt C9g 0).op ≠ (clAt C9g 0).ans := fun h => by
        have := congrArg Ans.ok h
        rw [show (clAt C9g 0).op = ⟨4, 1, 0, 0⟩ from rfl, get9'] at this
        cases this
      rw [show putL [] = [] from rfl, goesO, if_pos ⟨by decide, hne⟩] at h5
      cases h5
theorem ops9 : OpsOk (callsP hist9) := by
  rw [callsP_hist9]
  intro c hc
  simp only [C9, List.mem_cons, List.not_mem_nil, or_false] at hc
  rcases hc with rfl | rfl <;> exact ⟨⟨by decide, by decide⟩, by decide, by decide⟩
theorem ops9g : OpsOk (callsP hist9g) := by
  rw [callsP_hist9g]
  intro c hc
  simp only [C9g, List.mem_cons, List.not_mem_nil, or_false] at hc
  rcases hc with rfl <;> exact ⟨⟨by decide, by decide⟩, by decide, by decide⟩
theorem nilOk : AllOk [] := fun x hx => by cases hx
theorem awake20_spec (M : Mem) : XCalls Go.Proofs.Tryd.prog 11 [] M fun r M' => r = .l (.bool true) ∧ M' = M := by
  refine xcalls_intro (rs := [.tmp 0]) Go.Proofs.Tryd.func11 rfl (by kernel_rfl) rfl rfl (by kernel_rfl) (by simp) ?_
  simp -implicitDefEqProofs (maxSteps := 1000000) (disch := omega) only [↓xsP, ↓vc_seq, xsQ, xsT, xsR, xsD, ↓reduceIte, reduceCtorEq, eq_self, ne_eq, imp_self, forall_const, Nat.reduceEqDiff, Nat.reduceAdd, Nat.reduceSub, Nat.reduceMul, Nat.reduceLT, Nat.reduceLeDiff, Nat.reduceBEq, Nat.reduceDiv, Nat.reduceMod, Int.reduceToNat, Int.reduceNeg, Int.reduceAdd, Int.reduceSub, Int.reduceMul, Int.reduceEq, Int.reduceNe, Int.reduceLT, Int.reduceLE, Int.reduceGT, Int.reduceGE]
  refine newI_intro fun id1 hid1 => ?_
  simp -implicitDefEqProofs (maxSteps := 1000000) (disch := omega) only [↓xsP, ↓vc_seq, xsQ, xsT, xsR, xsD, ↓reduceIte, reduceCtorEq, eq_self, ne_eq, imp_self, forall_const, Nat.reduceEqDiff, Nat.reduceAdd, Nat.reduceSub, Nat.reduceMul, Nat.reduceLT, Nat.reduceLeDiff, Nat.reduceBEq, Nat.reduceDiv, Nat.reduceMod, Int.reduceToNat, Int.reduceNeg, Int.reduceAdd, Int.reduceSub, Int.reduceMul, Int.reduceEq, Int.reduceNe, Int.reduceLT, Int.reduceLE, Int.reduceGT, Int.reduceGE]
  refine newI_intro fun id2 hid2 => ?_
  obtain ⟨h12, hid2'⟩ := bnd_new hid2
  simp -implicitDefEqProofs (maxSteps := 1000000) (disch := omega) only [↓xsP, ↓vc_seq, xsQ, xsT, xsR, xsD, ↓reduceIte, reduceCtorEq, eq_self, ne_eq, imp_self, forall_const, Nat.reduceEqDiff, Nat.reduceAdd, Nat.reduceSub, Nat.reduceMul, Nat.reduceLT, Nat.reduceLeDiff, Nat.reduceBEq, Nat.reduceDiv, Nat.reduceMod, Int.reduceToNat, Int.reduceNeg, Int.reduceAdd, Int.reduceSub, Int.reduceMul, Int.reduceEq, Int.reduceNe, Int.reduceLT, Int.reduceLE, Int.reduceGT, Int.reduceGE]
  refine newI_intro fun idh hidh => ?_
  have key : ∀ (X1 X2 X3 X4 X5 : Blk) (N : Mem), ((((M.set id1 X1).set id2 X2).set id1 X3).set id2 X4).set idh X5 = N → N idh = some X5 ∧ M.le N ∧ (∀ j, idh + 1 ≤ j → N j = none) := by
    rintro X1 X2 X3 X4 X5 N rfl
    have e2 : id2 < idh := lt_of_bnd hidh (Mem.set_eq _ id2 _)
    refine ⟨Mem.set_eq _ _ _, fun k bk hk => ?_, fun j hj => ?_⟩
    · have := lt_of_bnd hid1 hk
      simp (disch := omega) only [Mem.set_ne, hk]
    · rw [Mem.set_ne _ _ _ _ (by omega), Mem.set_ne _ _ _ _ (by omega), Mem.set_ne _ _ _ _ (by omega), Mem.set_ne _ _ _ _ (by omega), Mem.set_ne _ _ _ _ (by omega)]
      exact hid1 j (by omega)
  simp -implicitDefEqProofs (maxSteps := 1000000) (disch := omega) only [↓xsP, ↓vc_seq, xsQ, xsT, xsR, xsD, ↓reduceIte, reduceCtorEq, eq_self, ne_eq, imp_self, forall_const, Nat.reduceEqDiff, Nat.reduceAdd, Nat.reduceSub, Nat.reduceMul, Nat.reduceLT, Nat.reduceLeDiff, Nat.reduceBEq, Nat.reduceDiv, Nat.reduceMod, Int.reduceToNat, Int.reduceNeg, Int.reduceAdd, Int.reduceSub, Int.reduceMul, Int.reduceEq, Int.reduceNe, Int.reduceLT, Int.reduceLE, Int.reduceGT, Int.reduceGE]
  generalize hN : Mem.set (Mem.set (Mem.set (Mem.set (Mem.set M _ _) _ _) _ _) _ _) _ _ = N
  obtain ⟨hNh, hle, hNb⟩ := key _ _ _ _ _ _ hN
  clear key hN
  refine callI_gs (GStep.keep' (rows' := hist9.map Evt.row) hNh rfl) ?_
  have hQ : ∃ Q, Q = N.set idh (.cells 36 (hist9.map Evt.row) (hist9.map Evt.row).length) ∧ Q idh = some (.cells 36 (hist9.map Evt.row) 3) ∧ M.le Q := by
    refine ⟨_, rfl, Mem.set_eq _ _ _, fun k bk hk => ?_⟩
    have := lt_of_bnd hid1 hk
    have := lt_of_bnd hidh (Mem.set_eq _ id2 _)
    rw [Mem.set_ne _ _ _ _ (by omega)]
    exact hle _ _ hk
  obtain ⟨Q, eQ, hQh, hMQ⟩ := hQ
  rw [← eQ]
  refine callI_of ((XCalls.rd (.cons (.inr ⟨_, _, rfl, rfl, Rd.nils _⟩) (.cons (.inr ⟨_, _, rfl, rfl, Rd.ms hQh (by decide) rfl⟩) .nil)) (lfind_spec [] hist9 (by decide) nilOk small9 ops9 Q)).mono ?_)
  rintro _ Q ⟨rfl, l, ok, e, hF, rfl⟩
  obtain ⟨rfl, rfl, rfl⟩ := found9 hF
  simp -implicitDefEqProofs (maxSteps := 1000000) (disch := omega) only [↓xsP, ↓vc_seq, xsQ, xsT, xsR, xsD, ↓reduceIte, reduceCtorEq, eq_self, ne_eq, imp_self, forall_const, Nat.reduceEqDiff, Nat.reduceAdd, Nat.reduceSub, Nat.reduceMul, Nat.reduceLT, Nat.reduceLeDiff, Nat.reduceBEq, Nat.reduceDiv, Nat.reduceMod, Int.reduceToNat, Int.reduceNeg, Int.reduceAdd, Int.reduceSub, Int.reduceMul, Int.reduceEq, Int.reduceNe, Int.reduceLT, Int.reduceLE, Int.reduceGT, Int.reduceGE, hQh]
  refine newI_intro fun ida hida => ?_
  have ka := lt_of_bnd hida hQh
  simp -implicitDefEqProofs (maxSteps := 1000000) (disch := omega) only [↓xsP, ↓vc_seq, xsQ, xsT, xsR, xsD, ↓reduceIte, reduceCtorEq, eq_self, ne_eq, imp_self, forall_const, Nat.reduceEqDiff, Nat.reduceAdd, Nat.reduceSub, Nat.reduceMul, Nat.reduceLT, Nat.reduceLeDiff, Nat.reduceBEq, Nat.reduceDiv, Nat.reduceMod, Int.reduceToNat, Int.reduceNeg, Int.reduceAdd, Int.reduceSub, Int.reduceMul, Int.reduceEq, Int.reduceNe, Int.reduceLT, Int.reduceLE, Int.reduceGT, Int.reduceGE, hQh]
  refine app_ms _ _ _ _ 36 _ _ ti_23 rfl ti_36 (by kernel_rfl) (by decide) ida 0 _ (rows := []) (keep := 0) (hist9g.map Evt.row) (Mem.set_eq _ _ _) ?_ (Nat.le_refl _) (Nat.zero_le _) ?_ ?_ (fun idb hidb => ?_)
  · have hq : (Q.set ida (.cells 36 [] 0)) idh = some (.cells 36 (hist9.map Evt.row) 3) := by rw [Mem.set_ne _ _ _ _ (by omega)]; exact hQh
    unfold srcRows
    rw [if_pos rfl]
    simp only [hq]
    exact if_pos ⟨trivial, by decide⟩
  · decide
  · decide
  obtain ⟨kb, hidb'⟩ := bnd_new hidb
  have hR : ∃ R, R = ((Q.set ida (.cells 36 [] 0)).del ida).set idb (.cells 36 (hist9g.map Evt.row) 0) ∧ R idb = some (.cells 36 (hist9g.map Evt.row) 0) ∧ R idh = some (.cells 36 (hist9.map Evt.row) 3) ∧ M.le R ∧ idh < idb ∧ M idb = none := by
    refine ⟨_, rfl, Mem.set_eq _ _ _, ?_, fun k bk hk => ?_, by omega, ?_⟩
    · rw [Mem.set_ne _ _ _ _ (by omega), Mem.del_ne _ _ _ (by omega), Mem.set_ne _ _ _ _ (by omega)]
      exact hQh
    · have h1 := hMQ _ _ hk
      have := lt_of_bnd hida h1
      rw [Mem.set_ne _ _ _ _ (by omega), Mem.del_ne _ _ _ (by omega), Mem.set_ne _ _ _ _ (by omega)]
      exact h1
    · cases hm : M idb with
      | none => rfl
      | some bk => have := lt_of_bnd hida (hMQ _ _ hm); omega
  obtain ⟨R, eR, hRb, hRh, hMR, khb, hMb⟩ := hR
  rw [List.take_zero, List.nil_append, ← eR]
  clear eR
  have hix : ∀ X : Mem, indexAddrA Go.Proofs.Tryd.prog X 40 (.l (.sl [[.int .i64 0], [.int .i64 1]])) (.l (.int .i64 0)) = some (.l (.rp [.int .i64 0])) := fun X => by
    unfold indexAddrA
    rw [ti_40]
    simp only [ti_3]
    rfl
  simp -implicitDefEqProofs (maxSteps := 1000000) (disch := omega) only [↓xsP, ↓vc_seq, xsQ, xsT, xsR, xsD, ↓reduceIte, reduceCtorEq, eq_self, ne_eq, imp_self, forall_const, Nat.reduceEqDiff, Nat.reduceAdd, Nat.reduceSub, Nat.reduceMul, Nat.reduceLT, Nat.reduceLeDiff, Nat.reduceBEq, Nat.reduceDiv, Nat.reduceMod, Int.reduceToNat, Int.reduceNeg, Int.reduceAdd, Int.reduceSub, Int.reduceMul, Int.reduceEq, Int.reduceNe, Int.reduceLT, Int.reduceLE, Int.reduceGT, Int.reduceGE, hRb, hRh, Int.cast_ofNat_Int, hix]
  refine callI_of ((XCalls.rd (.cons (.inr ⟨_, _, rfl, rfl, Rd.nils _⟩) (.cons (.inr ⟨_, _, rfl, rfl, Rd.ms hRh (by decide) rfl⟩) .nil)) (lany_spec [] hist9 (by decide) nilOk small9 ops9 R)).mono ?_)
  rintro _ R ⟨rfl, l1, ok1, e1, hF1, rfl⟩
  obtain ⟨rfl, -, -⟩ := found9 hF1
  simp -implicitDefEqProofs (maxSteps := 1000000) (disch := omega) only [↓xsP, ↓vc_seq, xsQ, xsT, xsR, xsD, ↓reduceIte, reduceCtorEq, eq_self, ne_eq, imp_self, forall_const, Nat.reduceEqDiff, Nat.reduceAdd, Nat.reduceSub, Nat.reduceMul, Nat.reduceLT, Nat.reduceLeDiff, Nat.reduceBEq, Nat.reduceDiv, Nat.reduceMod, Int.reduceToNat, Int.reduceNeg, Int.reduceAdd, Int.reduceSub, Int.reduceMul, Int.reduceEq, Int.reduceNe, Int.reduceLT, Int.reduceLE, Int.reduceGT, Int.reduceGE, hRb, hRh]
  refine callI_gs (GStep.frz hRb) ?_
  refine callI_of ((XCalls.rd (.cons (.inr ⟨_, _, rfl, rfl, Rd.nils _⟩) (.cons (.inr ⟨_, _, rfl, rfl, Rd.ms (Mem.set_eq _ _ _) (Nat.le_max_right _ _) rfl⟩) .nil)) (lany_spec [] hist9g (by decide) nilOk small9g ops9g _)).mono ?_)
  rintro _ _ ⟨rfl, l2, ok2, e2, hF2, rfl⟩
  rw [found9g hF2]
  simp -implicitDefEqProofs (maxSteps := 1000000) (disch := omega) only [↓xsP, ↓vc_seq, xsQ, xsT, xsR, xsD, ↓reduceIte, reduceCtorEq, eq_self, ne_eq, imp_self, forall_const, Nat.reduceEqDiff, Nat.reduceAdd, Nat.reduceSub, Nat.reduceMul, Nat.reduceLT, Nat.reduceLeDiff, Nat.reduceBEq, Nat.reduceDiv, Nat.reduceMod, Int.reduceToNat, Int.reduceNeg, Int.reduceAdd, Int.reduceSub, Int.reduceMul, Int.reduceEq, Int.reduceNe, Int.reduceLT, Int.reduceLE, Int.reduceGT, Int.reduceGE]
  refine fin_ok (fun k bk hk => ?_) ⟨rfl, rfl⟩
  rw [Mem.set_ne _ _ _ _ (fun e => by rw [← e, hMb] at hk; cases hk)]
  exact hMR _ _ hk
end Go.X
set_option linter.unusedVariables false
set_option linter.unusedSimpArgs false
set_option maxRecDepth 100000
namespace Go.X

theorem not_ok {h : List Evt} (hok : okP h = false) : callsP h = [] ∧ overP h = false ∧ soloP h = false := by
  refine ⟨?_, by rw [overP, hok]; rfl, by rw [soloP, hok]; rfl⟩
  unfold okP at hok
  unfold callsP
  cases hr : readP h with
  | none => rfl
  | some l => rw [hr] at hok; cases hok
end Go.X
set_option linter.unusedVariables false
set_option linter.unusedSimpArgs false
set_option maxHeartbeats 20000000
set_option maxRecDepth 100000
namespace Go.X
open Go.Proofs.Tryd (prog)

theorem ops_ok {h : List Evt} (hi : ∀ x ∈ h, IntOk' x.op.key ∧ IntOk' x.op.val) : OpsOk (callsP h) := by
  cases hok : okP h with
  | false =>
    rw [(not_ok hok).1]
    exact fun c hc => by cases hc
  | true =>
    obtain ⟨ms, hr, I⟩ := okP_inv hok
    intro c hc
    obtain ⟨k, hk, rfl⟩ := List.getElem_of_mem hc
    obtain ⟨b, h1, _, _, _, h2⟩ := I.beg k hk
    simp only at h2
    have e : (callsP h).getD k default = (callsP h)[k] := by rw [List.getD_eq_getElem?_getD, List.getElem?_eq_getElem hk]; rfl
    rw [e] at h2
    rw [← h2]
    exact hi _ (getD_mem' h default h1)
end Go.X
set_option linter.unusedVariables false
set_option linter.unusedSimpArgs false
set_option maxRecDepth 100000
namespace Go.X

structure ExtA (k : Nat) (a b : List Cl) : Prop where
  ext : Ext k a b
  new : ∀ i, a.length ≤ i → i < b.length → (k : Int) ≤ (b.getD i default).beg
  ans : ∀ i, i < a.length → 0 ≤ (a.getD i default).fin → (b.getD i default).ans = (a.getD i default).ans
theorem ExtA.refl (k : Nat) (a : List Cl) : ExtA k a a := ⟨Ext.refl k a, fun i h1 h2 => by omega, fun _ _ _ => rfl⟩
theorem ExtA.trans {k : Nat} {a b c : List Cl} (h : ExtA k a b) (h' : ExtA k b c) : ExtA k a c where
  ext := h.ext.trans h'.ext
  new i h1 h2 := by
    by_cases e : i < b.length
    · rw [h'.ext.beg i e]
      exact h.new i h1 e
    · exact h'.new i (by omega) h2
  ans i hi h0 := by
    have hl := h.ext.len
    rw [h'.ans i (by omega) ?_]
    · exact h.ans i hi h0
    · rcases h.ext.fin i hi with e | ⟨e, _⟩ <;> omega
end Go.X
set_option linter.unusedVariables false
set_option linter.unusedSimpArgs false
set_option maxHeartbeats 20000000
set_option maxRecDepth 100000
namespace Go.X
open Go.Proofs.Tryd (prog)

theorem evts_wk' (l : List Evt) : (l.map Evt.row).map (fun r => r.map wkL) = l.map Evt.row := by
  simp only [List.map_map]
  exact List.map_congr_left fun p _ => by simp [Evt.row, wkL]
end Go.X
set_option linter.unusedVariables false
set_option linter.unusedSimpArgs false
set_option maxRecDepth 100000
namespace Go.X

/-- Each answer is what one map tells. -/
def Told (b : List Pr) (L : List (Opn × Ans)) : Prop := ∀ j, j < L.length → doA (runL b ((L.take j).map (·.1))) (L.getD j default).1 = (L.getD j default).2
noncomputable def toldL (b : List Pr) (ops : List Opn) : List (Opn × Ans) := ops.zip (runA b ops)
theorem toldL_len (b : List Pr) (ops : List Opn) : (toldL b ops).length = ops.length := by rw [toldL, List.length_zip, runA_len, Nat.min_self]
theorem toldL_snoc (b : List Pr) (ops : List Opn) (op : Opn) : toldL b (ops ++ [op]) = toldL b ops ++ [(op, doA (runL b ops) op)] := by
  rw [toldL, runA_snoc, List.zip_append (by rw [runA_len]), toldL]
  rfl
theorem toldL_take (b : List Pr) (ops : List Opn) {i : Nat} (hi : i < ops.length) : toldL b (ops.take (i + 1)) = toldL b (ops.take i) ++ [(ops.getD i default, doA (runL b (ops.take i)) (ops.getD i default))] := by
  rw [take_sc ops default hi, toldL_snoc]
theorem toldL_fst (b : List Pr) (ops : List Opn) : (toldL b ops).map (·.1) = ops := by
  rw [toldL, List.map_fst_zip (by rw [runA_len]; exact Nat.le_refl _)]
theorem runA_take (b : List Pr) (ops : List Opn) (j : Nat) (hj : j < ops.length) : (runA b ops).getD j default = doA (runL b (ops.take j)) (ops.getD j default) := by
  induction ops generalizing b j with
  | nil => simp at hj
  | cons op r ih =>
    cases j with
    | zero => rfl
    | succ j =>
      have := ih (doL b op) j (by simpa using hj)
      rw [runA, List.getD_cons_succ, this]
      rfl
theorem toldL_get (b : List Pr) (ops : List Opn) (j : Nat) (hj : j < ops.length) : (toldL b ops).getD j default = (ops.getD j default, doA (runL b (ops.take j)) (ops.getD j default)) := by
  have h2 := runA_take b ops j hj
  have hr : j < (runA b ops).length := by rw [runA_len]; exact hj
  rw [← h2, toldL]
  have hz : (ops.zip (runA b ops))[j]? = some (ops[j], (runA b ops)[j]) := by
    rw [List.getElem?_eq_getElem (by rw [List.length_zip]; omega), List.getElem_zip]
  rw [List.getD_eq_getElem?_getD, hz, List.getD_eq_getElem?_getD, List.getElem?_eq_getElem hj, List.getD_eq_getElem?_getD, List.getElem?_eq_getElem hr]
  rfl
theorem toldL_told (b : List Pr) (ops : List Opn) : Told b (toldL b ops) := fun j hj => by
  rw [toldL_len] at hj
  rw [toldL_get b ops j hj, List.map_take, toldL_fst]
theorem runL_asc {b : List Pr} (hb : Asc b) : ∀ ops : List Opn, Asc (runL b ops) := by
  intro ops
  induction ops generalizing b with
  | nil => exact hb
  | cons op r ih => exact ih (doL_asc op hb)
end Go.X
set_option linter.unusedVariables false
set_option linter.unusedSimpArgs false
set_option maxRecDepth 100000
namespace Go.X
open Go.Proofs.Tryd (prog)

structure EvB (B M : Mem) (x : Lf) (L : List Evt) : Prop where
  le : B.le M
  own : (L = [] ∧ x = .nils) ∨ ∃ id rows keep, B id = none ∧ M id = some (.cells 36 rows keep) ∧ keep ≤ rows.length ∧ rows.map (fun r => r.map wkL) = L.map Evt.row ∧ x = .ms id 0 L.length
theorem EvB.grow {B M N : Mem} {x : Lf} {L : List Evt} (I : EvB B M x L) (hle : M.le N) : EvB B N x L := by
  refine ⟨fun k bk hk => hle _ _ (I.le _ _ hk), ?_⟩
  rcases I.own with h | ⟨id, rows, keep, a1, a2, a3⟩
  · exact .inl h
  · exact .inr ⟨id, rows, keep, a1, hle _ _ a2, a3⟩
theorem EvB.len {L : List Evt} {rows : List (List Lf)} (h : rows.map (fun r => r.map wkL) = L.map Evt.row) : rows.length = L.length := by
  have := congrArg List.length h
  simpa using this
theorem EvB.rd {B M : Mem} {x : Lf} {L : List Evt} (I : EvB B M x L) : ∃ M', GStep M M' ∧ EvB B M' x L ∧ Rd M' x (L.map Evt.row) ∧ (∀ id n, x = .ms id 0 n → M' id = some (.cells 36 (L.map Evt.row) L.length)) := by
  rcases I.own with ⟨rfl, rfl⟩ | ⟨id, rows, keep, a1, a2, a3, a4, rfl⟩
  · exact ⟨M, GStep.le (Mem.le_refl _), I, Rd.nils _, fun id n h => by cases h⟩
  · have hlen := EvB.len a4
    have h1 := GStep.wk a2
    rw [a4] at h1
    have h2 := GStep.frz (Mem.set_eq M id (.cells 36 (L.map Evt.row) keep))
    rw [Mem.set_set, show max keep (L.map Evt.row).length = L.length by rw [List.length_map]; omega] at h2
    refine ⟨_, h1.trans h2, ⟨fun k bk hk => ?_, .inr ⟨id, L.map Evt.row, L.length, a1, Mem.set_eq _ _ _, by simp, evts_wk' L, rfl⟩⟩, Rd.ms (Mem.set_eq _ _ _) (by simp) (by simp), fun id' n e => ?_⟩
    · rw [Mem.set_ne _ _ _ _ (fun e => by rw [← e, a1] at hk; cases hk)]
      exact I.le _ _ hk
    · cases e
      exact Mem.set_eq _ _ _
theorem app_evs {B N : Mem} {x : Lf} {L : List Evt} (I : EvB B N x L) {pb : Nat} (hb : ∀ j, pb ≤ j → N j = none) (rs : List (List Lf)) (es : List Evt) (hr : rs.map (fun r => r.map wkL) = es.map Evt.row) (hne : es ≠ []) (hl : L.length + es.length ≤ 1000) {n : Nat} (hn : n = es.length) {K : AV → Mem → Prop}
    (hk : ∀ x' N', EvB B N' x' (L ++ es) → K (.l x') N') :
    @appI Go.Proofs.Tryd.prog (N.set pb (.cells 36 rs 0)) 23 23 (.l x) (.l (.ms pb 0 n)) ⟨K⟩ := by
  have hrl := EvB.len hr
  subst hn
  have hb2 : ∀ {j : Nat}, (∀ k, j ≤ k → (N.set pb (.cells 36 rs 0)) k = none) → pb < j ∧ ∀ k, j ≤ k → N k = none := fun h => bnd_new h
  have hsrc : ∀ te : TI, srcRows Go.Proofs.Tryd.prog (N.set pb (.cells 36 rs 0)) 23 23 36 te (.l (.ms pb 0 es.length)) = some rs := fun te => by
    unfold srcRows
    rw [if_pos rfl]
    simp only [Mem.set_eq]
    rw [if_pos ⟨trivial, by omega⟩, List.drop_zero, List.take_of_length_le (by omega)]
  have hne' : rs ≠ [] := fun e => hne (List.length_eq_zero_iff.1 (by rw [← hrl, e]; rfl))
  rcases I.own with ⟨rfl, rfl⟩ | ⟨id, rows, keep, a1, a2, a3, a4, rfl⟩
  · refine app_nils _ _ _ _ 36 _ _ ti_23 rfl ti_36 (by kernel_rfl) (by decide) _ rs (hsrc _) ?_ ?_ (fun e => absurd e hne') (fun _ id hid => ?_)
    · exact Nat.le_trans (Nat.mul_le_mul_right _ (show rs.length ≤ 1000 by omega)) (by decide)
    · omega
    · obtain ⟨h1, h2⟩ := hb2 hid
      rw [hrl]
      refine hk _ _ ⟨fun k bk hk' => ?_, .inr ⟨id, rs, 0, ?_, Mem.set_eq _ _ _, Nat.zero_le _, by rw [hr]; rfl, rfl⟩⟩
      · have h3 := I.le _ _ hk'
        have := lt_of_bnd hb h3
        rw [Mem.set_ne _ _ _ _ (by omega), Mem.set_ne _ _ _ _ (by omega)]
        exact h3
      · cases hB : B id with
        | none => rfl
        | some bk => have := h2 id (Nat.le_refl _); rw [I.le _ _ hB] at this; cases this
  · have hlen := EvB.len a4
    have hpi := lt_of_bnd hb a2
    refine app_ms _ _ _ _ 36 _ _ ti_23 rfl ti_36 (by kernel_rfl) (by decide) id L.length _ (rows := rows) (keep := keep) rs (by rw [Mem.set_ne _ _ _ _ (by omega)]; exact a2) (hsrc _) (by omega) (by omega) ?_ ?_ (fun id' hid => ?_)
    · exact Nat.le_trans (Nat.mul_le_mul_right _ (show L.length + rs.length ≤ 1000 by omega)) (by decide)
    · omega
    · obtain ⟨h1, h2⟩ := hb2 hid
      rw [hrl, List.take_of_length_le (by omega), show L.length + es.length = (L ++ es).length by simp]
      refine hk _ _ ⟨fun k bk hk' => ?_, .inr ⟨id', rows ++ rs, keep, ?_, Mem.set_eq _ _ _, by rw [List.length_append]; omega, by rw [List.map_append, a4, hr, List.map_append], rfl⟩⟩
      · have h3 := I.le _ _ hk'
        have := lt_of_bnd hb h3
        rw [Mem.set_ne _ _ _ _ (by omega), Mem.del_ne _ _ _ (fun e => by rw [← e, a1] at hk'; cases hk'), Mem.set_ne _ _ _ _ (by omega)]
        exact h3
      · cases hB : B id' with
        | none => rfl
        | some bk => have := h2 id' (Nat.le_refl _); rw [I.le _ _ hB] at this; cases this
end Go.X
set_option linter.unusedVariables false
set_option linter.unusedSimpArgs false
set_option maxHeartbeats 20000000
set_option maxRecDepth 100000
namespace Go.X
open Go.Proofs.Tryd (prog)

theorem doA_errN {l : List Pr} {op : Opn} (hl : Asc l) (hm : mayOpB op = true) : (doA l op).err = 0 := by
  have hk : okOp l op = true := by rw [okOp, hm, bof_true ((rises_asc l).2 hl)]; rfl
  rw [doA, if_neg (by simp [hk])]
  split
  · rfl
  · split
    · rfl
    · split
      · split <;> rfl
      · split
        · split <;> rfl
        · rw [ansAt]; split <;> rfl
theorem rowsP' (l : List Pr) : ∀ r ∈ l.map Pr.row, r.length = 2 := by
  intro r hr
  obtain ⟨p, _, rfl⟩ := List.mem_map.1 hr
  rfl
theorem toldL_mem {b : List Pr} {ops : List Opn} {x : Opn × Ans} (hx : x ∈ toldL b ops) : ∃ j, j < ops.length ∧ x = (ops.getD j default, doA (runL b (ops.take j)) (ops.getD j default)) := by
  obtain ⟨j, hj, rfl⟩ := List.getElem_of_mem hx
  have hj' : j < ops.length := by rwa [toldL_len] at hj
  refine ⟨j, hj', ?_⟩
  rw [← toldL_get b ops j hj', List.getD_eq_getElem?_getD, List.getElem?_eq_getElem hj]
  rfl
theorem told_ok {b : List Pr} {ops : List Opn} (hb : Asc b) (hbl : b.length ≤ 30) (hl : ops.length ≤ 24) (hm : ∀ o ∈ ops, mayOpB o = true) :
    (∀ x ∈ toldL b ops, mayOpB x.1 = true) ∧ (∀ x ∈ toldL b ops, x.2.err = 0) ∧ (∀ x ∈ toldL b ops, x.2.pairs.length ≤ 54) := by
  refine ⟨fun x hx => ?_, fun x hx => ?_, fun x hx => ?_⟩ <;> obtain ⟨j, hj, rfl⟩ := toldL_mem hx
  · exact hm _ (getD_mem' ops default hj)
  · exact doA_errN (runL_asc hb _) (hm _ (getD_mem' ops default hj))
  · have h1 := doA_lenO (runL b (ops.take j)) (ops.getD j default)
    have h2 := runL_len b (ops.take j)
    rw [List.length_take] at h2
    show (doA (runL b (ops.take j)) (ops.getD j default)).pairs.length ≤ 54
    omega
end Go.X
