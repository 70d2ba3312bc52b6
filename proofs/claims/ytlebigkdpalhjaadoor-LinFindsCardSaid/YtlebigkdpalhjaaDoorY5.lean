/- Texts joined: Nd Ne Nf Ng Nh Ni Nj Nk Ye Nl Zd Ua. -/
import Derived.Test.YtlebigkdpalhjaaDoorY4
set_option linter.unusedVariables false
set_option linter.unusedSimpArgs false
set_option maxHeartbeats 20000000
set_option maxRecDepth 100000
namespace Go.X
open Go.Proofs.Tryd (prog)
open Go.RowKit

theorem ArgsR.rsd {g : Gh} {w : World} {args : List AV} {vs : Array Value} (r : Nat → Prop) (h : ArgsR g w args vs) : ArgsR (g.rsd r) w args vs := ⟨h.1, fun i x v a b => (h.2 i x v a b).rsd r⟩
theorem updE_app (M : Mem) (a b : Eff) : updE M (a ++ b) = updE (updE M a) b := by
  induction a generalizing M with
  | nil => rfl
  | cons p a ih =>
    obtain ⟨x, o⟩ := p
    cases o with
    | none => rw [List.cons_append, updE_none, updE_none, ih]
    | some b' => rw [List.cons_append, updE_some, updE_some, ih]
theorem updE_dels (M : Mem) (ds : List Nat) : updE M (ds.map fun d => (d, none)) = delL M ds := by
  induction ds generalizing M with
  | nil => rfl
  | cons d ds ih => rw [List.map_cons, updE_none, delL_cons, ih]
theorem delL_none {M : Mem} {ds : List Nat} {i : Nat} (h : M i = none) : delL M ds i = none := by
  cases hm : delL M ds i with
  | none => rfl
  | some b => have := (delL_some hm).2; rw [h] at this; cases this
theorem wcall_new {P : Program} {f : FuncId} {args : List AV} {M : Mem} {nid : Nat} {C : AV → Eff → Prop} (n : Nat) (B : Blk) (ds : List Nat) (h : ∀ M', M.le M' → XCalls P f args M' fun r M'' => ∃ id', (∀ j, id' ≤ j → M' j = none) ∧ r = .l (.ms id' 0 n) ∧ ((delL M' ds).set id' B).le M'')
    (hc : C (.l (.ms nid 0 n)) ((ds.map fun d => (d, none)) ++ [(nid, some B)])) : @wcallI P f args M nid ⟨C⟩ := by
  refine ⟨_, _, fun M' hle hn => ⟨(h M' hle).1, fun g w vs hP hA hR hN => ?_⟩, hc⟩
  obtain ⟨id, h1, h2, h3, h4⟩ := hN (fun i => i = nid) rfl
  subst h4
  have hR1 := hR.rsd (fun i => g.res i ∨ i = id) (by
    obtain ⟨m, hm⟩ := hR.fin
    refine ⟨max m (id + 1), fun i hi => ?_⟩
    rintro (h | h)
    · exact (hm i (by omega)).2.2 h
    · omega)
  refine ((h M' hle).2 (g.rsd fun i => g.res i ∨ i = id) w vs hP (hA.rsd _) hR1).mono ?_
  rintro e w' ⟨rv, v, g', M'', he, ⟨id', hid, rfl, hle2⟩, hev, hcv, hrel⟩
  have hfree : g'.blk id = none := hev.rsv id (.inr rfl) h1
  have hrel2 : Rel (g'.rsd g.res) ((delL M' ds).set id' B) w' := (hrel.rsd g.res (by
    obtain ⟨m, hm⟩ := hR.fin
    exact ⟨m, fun i hi => (hm i hi).2.2⟩)).le hle2
  have hev2 : Ev g w (g'.rsd g.res) w' := ⟨hev.w0, hev.P, hev.blk, hev.fz, hev.cell, rfl, fun i hr hb => hev.rsv i (.inl hr) hb⟩
  cases hcv with
  | l hcv =>
    cases hcv with
    | ms hx hl1 hl2 =>
      rename_i b sz cr cap
      have hne : id' ≠ id := fun e => by rw [e, hfree] at hx; cases hx
      obtain ⟨e3, r3⟩ := rel_rename hrel2 (id := id') (id' := id) hfree (by rw [Mem.set_ne _ _ _ _ hne]; exact delL_none h2) h3 hx (Mem.set_eq _ _ _)
      refine ⟨_, _, _, _, he, ⟨rfl, Mem.le_refl _⟩, hev2.trans e3, .l (.ms (Gh.put_same _ _ _) hl1 hl2), r3.le ?_⟩
      rw [updE_app, updE_dels, updE_some, updE_nil]
      intro k bk hk
      rw [Mem.set_app] at hk ⊢
      by_cases h : id = k
      · rw [if_pos h] at hk ⊢
        exact hk
      · rw [if_neg h] at hk ⊢
        have hk' : id' ≠ k := fun e => by
          subst e
          rw [delL_none (hid _ (Nat.le_refl _))] at hk
          cases hk
        rw [Mem.del_ne _ _ _ hk', Mem.set_ne _ _ _ _ hk']
        exact hk

/-! ### the text of a state -/
def prTxt (p : Pr) : List UInt8 := 32 :: Lib.itoa p.key ++ 58 :: Lib.itoa p.val
def stTxt (d : Int) (s : List Pr) : List UInt8 := Lib.itoa d ++ s.flatMap prTxt
def IntOk' (n : Int) : Prop := -9223372036854775808 ≤ n ∧ n ≤ 9223372036854775807
def AllOk (s : List Pr) : Prop := ∀ p ∈ s, IntOk' p.key ∧ IntOk' p.val
theorem prTxt_len {p : Pr} (h : IntOk' p.key ∧ IntOk' p.val) : (prTxt p).length ≤ 50 := by
  have h1 := Lib.itoa_length_le p.key h.1.1 h.1.2
  have h2 := Lib.itoa_length_le p.val h.2.1 h.2.2
  simp only [prTxt, List.length_append, List.length_cons]
  omega
theorem bytes_byR : ∀ l : List UInt8, bytesOf (byR l) = some l
  | [] => rfl
  | b :: l => by
    have ih := bytes_byR l
    rw [byR] at ih ⊢
    have hb : b.toNat < 256 := b.toNat_lt
    rw [List.map_cons, bytesOf, if_pos (by omega), ih, Option.map_some]
    congr 2
    rw [Int.toNat_natCast]
    exact UInt8.ofNat_toNat
theorem state_spec (d : Int) (hd : IntOk' d) (s : List Pr) (hs : AllOk s) (hl : s.length ≤ 100000) (id : Nat) (M : Mem) (hM : M id = some (mapB s)) :
    XCalls Go.Proofs.Tryd.prog 34 [.l (.int .i64 d), .l (.ptr id 0 0)] M fun r M' => r = .l (txt (stTxt d s)) ∧ M' = M := by
  refine xcalls_intro (rs := [.tmp 4]) Go.Proofs.Tryd.func34 rfl (by kernel_rfl) rfl rfl (by kernel_rfl) (by simp) ?_
  simp -implicitDefEqProofs (maxSteps := 1000000) (disch := omega) only [↓xsP, ↓vc_seq, xsQ, xsT, xsR, xsD, ↓reduceIte, reduceCtorEq, eq_self, ne_eq, imp_self, forall_const, Nat.reduceEqDiff, Nat.reduceAdd, Nat.reduceSub, Nat.reduceMul, Nat.reduceLT, Nat.reduceLeDiff, Nat.reduceBEq, Nat.reduceDiv, Nat.reduceMod, Int.reduceToNat, Int.reduceNeg, Int.reduceAdd, Int.reduceSub, Int.reduceMul, Int.reduceEq, Int.reduceNe, Int.reduceLT, Int.reduceLE, Int.reduceGT, Int.reduceGE]
  refine callI_of ((appI_spec .nil d hd.1 hd.2 (by simp)).mono ?_)
  rintro _ _ ⟨id5, hid5, rfl, rfl⟩
  have k5 := lt_of_bnd hid5 hM
  simp -implicitDefEqProofs (maxSteps := 1000000) (disch := omega) only [↓xsP, ↓vc_seq, xsQ, xsT, xsR, xsD, ↓reduceIte, reduceCtorEq, eq_self, ne_eq, imp_self, forall_const, Nat.reduceEqDiff, Nat.reduceAdd, Nat.reduceSub, Nat.reduceMul, Nat.reduceLT, Nat.reduceLeDiff, Nat.reduceBEq, Nat.reduceDiv, Nat.reduceMod, Int.reduceToNat, Int.reduceNeg, Int.reduceAdd, Int.reduceSub, Int.reduceMul, Int.reduceEq, Int.reduceNe, Int.reduceLT, Int.reduceLE, Int.reduceGT, Int.reduceGE]
  refine call_of (pairs_spec s (by omega) id _ (by rw [Mem.set_ne _ _ _ _ (by omega)]; exact hM)) ?_
  simp -implicitDefEqProofs (maxSteps := 1000000) (disch := omega) only [↓xsP, ↓vc_seq, xsQ, xsT, xsR, xsD, ↓reduceIte, reduceCtorEq, eq_self, ne_eq, imp_self, forall_const, Nat.reduceEqDiff, Nat.reduceAdd, Nat.reduceSub, Nat.reduceMul, Nat.reduceLT, Nat.reduceLeDiff, Nat.reduceBEq, Nat.reduceDiv, Nat.reduceMod, Int.reduceToNat, Int.reduceNeg, Int.reduceAdd, Int.reduceSub, Int.reduceMul, Int.reduceEq, Int.reduceNe, Int.reduceLT, Int.reduceLE, Int.reduceGT, Int.reduceGE]
  refine loopI_of (xloop (by kernel_rfl) (fun k fr M2 => ∃ (i idb : Nat) (l : List UInt8), i ≤ s.length ∧ k = s.length - i ∧ (∀ j, idb ≤ j → M j = none) ∧ l = Lib.itoa d ++ (s.take i).flatMap prTxt ∧ l.length ≤ 30 + 50 * i ∧ fr 5 = .l (.ms idb 0 l.length) ∧ fr 11 = .l (.sl (s.map Pr.row)) ∧ fr 12 = .l (.int .i64 s.length) ∧ fr 13 = .l (.int .i64 i) ∧ M2 = M.set idb (.cells 5 (byR l) 0)) s.length ?_ ?_)
  · exact ⟨0, id5, Lib.itoa d, Nat.zero_le _, rfl, hid5, by simp, by have := Lib.itoa_length_le d hd.1 hd.2; omega, by simp -implicitDefEqProofs (maxSteps := 1000000) (disch := omega) only [↓xsP, ↓vc_seq, xsQ, xsT, xsR, xsD, ↓reduceIte, reduceCtorEq, eq_self, ne_eq, imp_self, forall_const, Nat.reduceEqDiff, Nat.reduceAdd, Nat.reduceSub, Nat.reduceMul, Nat.reduceLT, Nat.reduceLeDiff, Nat.reduceBEq, Nat.reduceDiv, Nat.reduceMod, Int.reduceToNat, Int.reduceNeg, Int.reduceAdd, Int.reduceSub, Int.reduceMul, Int.reduceEq, Int.reduceNe, Int.reduceLT, Int.reduceLE, Int.reduceGT, Int.reduceGE], by simp -implicitDefEqProofs (maxSteps := 1000000) (disch := omega) only [↓xsP, ↓vc_seq, xsQ, xsT, xsR, xsD, ↓reduceIte, reduceCtorEq, eq_self, ne_eq, imp_self, forall_const, Nat.reduceEqDiff, Nat.reduceAdd, Nat.reduceSub, Nat.reduceMul, Nat.reduceLT, Nat.reduceLeDiff, Nat.reduceBEq, Nat.reduceDiv, Nat.reduceMod, Int.reduceToNat, Int.reduceNeg, Int.reduceAdd, Int.reduceSub, Int.reduceMul, Int.reduceEq, Int.reduceNe, Int.reduceLT, Int.reduceLE, Int.reduceGT, Int.reduceGE], by simp -implicitDefEqProofs (maxSteps := 1000000) (disch := omega) only [↓xsP, ↓vc_seq, xsQ, xsT, xsR, xsD, ↓reduceIte, reduceCtorEq, eq_self, ne_eq, imp_self, forall_const, Nat.reduceEqDiff, Nat.reduceAdd, Nat.reduceSub, Nat.reduceMul, Nat.reduceLT, Nat.reduceLeDiff, Nat.reduceBEq, Nat.reduceDiv, Nat.reduceMod, Int.reduceToNat, Int.reduceNeg, Int.reduceAdd, Int.reduceSub, Int.reduceMul, Int.reduceEq, Int.reduceNe, Int.reduceLT, Int.reduceLE, Int.reduceGT, Int.reduceGE], by simp -implicitDefEqProofs (maxSteps := 1000000) (disch := omega) only [↓xsP, ↓vc_seq, xsQ, xsT, xsR, xsD, ↓reduceIte, reduceCtorEq, eq_self, ne_eq, imp_self, forall_const, Nat.reduceEqDiff, Nat.reduceAdd, Nat.reduceSub, Nat.reduceMul, Nat.reduceLT, Nat.reduceLeDiff, Nat.reduceBEq, Nat.reduceDiv, Nat.reduceMod, Int.reduceToNat, Int.reduceNeg, Int.reduceAdd, Int.reduceSub, Int.reduceMul, Int.reduceEq, Int.reduceNe, Int.reduceLT, Int.reduceLE, Int.reduceGT, Int.reduceGE, Int.cast_ofNat_Int], rfl⟩
  · clear k5 hid5 id5
    rintro k fr M2 ⟨i, idb, l, hi, rfl, hidb, hl2, hll, f5, f11, f12, f13, rfl⟩
    have kb := lt_of_bnd hidb hM
    simp -implicitDefEqProofs (maxSteps := 1000000) (disch := omega) only [↓xsP, ↓vc_seq, xsQ, xsT, xsR, xsD, ↓reduceIte, reduceCtorEq, eq_self, ne_eq, imp_self, forall_const, Nat.reduceEqDiff, Nat.reduceAdd, Nat.reduceSub, Nat.reduceMul, Nat.reduceLT, Nat.reduceLeDiff, Nat.reduceBEq, Nat.reduceDiv, Nat.reduceMod, Int.reduceToNat, Int.reduceNeg, Int.reduceAdd, Int.reduceSub, Int.reduceMul, Int.reduceEq, Int.reduceNe, Int.reduceLT, Int.reduceLE, Int.reduceGT, Int.reduceGE, f5, f11, f12, f13]
    refine condI_prop (fun hlt => ?_) (fun hlt => ?_)
    · have hil : i < s.length := by omega
      obtain ⟨p, hp⟩ : ∃ p, s.getD i default = p := ⟨_, rfl⟩
      have hpo := hs _ (getD_mem' s default hil)
      rw [hp] at hpo
      have hpt := prTxt_len hpo
      simp -implicitDefEqProofs (maxSteps := 1000000) (disch := omega) only [↓xsP, ↓vc_seq, xsQ, xsT, xsR, xsD, ↓reduceIte, reduceCtorEq, eq_self, ne_eq, imp_self, forall_const, Nat.reduceEqDiff, Nat.reduceAdd, Nat.reduceSub, Nat.reduceMul, Nat.reduceLT, Nat.reduceLeDiff, Nat.reduceBEq, Nat.reduceDiv, Nat.reduceMod, Int.reduceToNat, Int.reduceNeg, Int.reduceAdd, Int.reduceSub, Int.reduceMul, Int.reduceEq, Int.reduceNe, Int.reduceLT, Int.reduceLE, Int.reduceGT, Int.reduceGE, f5, f11, f12, f13, hp]
      refine newI_intro fun id7 hid7 => ?_
      obtain ⟨k7, hid7M⟩ := bnd_new hid7
      simp -implicitDefEqProofs (maxSteps := 1000000) (disch := omega) only [↓xsP, ↓vc_seq, xsQ, xsT, xsR, xsD, ↓reduceIte, reduceCtorEq, eq_self, ne_eq, imp_self, forall_const, Nat.reduceEqDiff, Nat.reduceAdd, Nat.reduceSub, Nat.reduceMul, Nat.reduceLT, Nat.reduceLeDiff, Nat.reduceBEq, Nat.reduceDiv, Nat.reduceMod, Int.reduceToNat, Int.reduceNeg, Int.reduceAdd, Int.reduceSub, Int.reduceMul, Int.reduceEq, Int.reduceNe, Int.reduceLT, Int.reduceLE, Int.reduceGT, Int.reduceGE, f5, f11, f12, f13, hp]
      have hM7 : ((M.set idb (.cells 5 (byR l) 0)).set id7 (.cells 32 [[.int .i64 p.key, .int .i64 p.val]] 0)) id7 = some (.cells 32 [[.int .i64 p.key, .int .i64 p.val]] 0) := Mem.set_eq _ _ _
      have hMb : ((M.set idb (.cells 5 (byR l) 0)).set id7 (.cells 32 [[.int .i64 p.key, .int .i64 p.val]] 0)) idb = some (.cells 5 (byR l) 0) := by rw [Mem.set_ne _ _ _ _ (by omega), Mem.set_eq]
      have hMM : ∀ k bk, M k = some bk → ((M.set idb (.cells 5 (byR l) 0)).set id7 (.cells 32 [[.int .i64 p.key, .int .i64 p.val]] 0)) k = some bk := fun k bk hk => by
        have := lt_of_bnd hidb hk
        rw [Mem.set_ne _ _ _ _ (by omega), Mem.set_ne _ _ _ _ (by omega)]
        exact hk
      generalize (M.set idb (.cells 5 (byR l) 0)).set id7 (.cells 32 [[.int .i64 p.key, .int .i64 p.val]] 0) = N at hM7 hMb hMM ⊢
      refine xwrite (fun n0 => [ (2, idb), (5, n0 + 2)]) [2, 5] [1, 2, 5] [[], [], [], [2, 1], [2, 1], [], []] (by kernel_rfl) (by kernel_rfl) (by kernel_rfl) (by kernel_rfl) (fun n0 hn0 => ⟨rfl, ?_, ?_⟩)
      · exact TOk_cons (.inl (lt_of_bnd hn0 hMb)) (TOk_cons (.inr ⟨2, by decide, ⟨by decide, by decide⟩, rfl⟩) (TOk_nil _ _))
      · have z1 := lt_of_bnd hn0 hM7
        have z2 := lt_of_bnd hn0 hMb
        simp -implicitDefEqProofs (maxSteps := 1000000) (disch := omega) only [↓xsP, ↓vc_seq, xsQ, xsT, xsR, xsD, ↓reduceIte, reduceCtorEq, eq_self, ne_eq, imp_self, forall_const, Nat.reduceEqDiff, Nat.reduceAdd, Nat.reduceSub, Nat.reduceMul, Nat.reduceLT, Nat.reduceLeDiff, Nat.reduceBEq, Nat.reduceDiv, Nat.reduceMod, Int.reduceToNat, Int.reduceNeg, Int.reduceAdd, Int.reduceSub, Int.reduceMul, Int.reduceEq, Int.reduceNe, Int.reduceLT, Int.reduceLE, Int.reduceGT, Int.reduceGE, f5, f11, f12, f13, hM7, hMb]
        have hb1 : (l ++ [32]).length ≤ 9000000 := by rw [List.length_append]; simp only [List.length_cons, List.length_nil]; omega
        refine ⟨.inl (by decide), ?_⟩
        refine wapp_ms _ _ _ _ _ 5 _ _ ti_96 rfl ti_5 (by kernel_rfl) (by decide) idb l.length _ (rows := byR l) (keep := 0) (byR [32]) ?_ ?_ (by rw [byR_len]; exact Nat.le_refl _) (Nat.zero_le _) ?_ ?_ ?_
        · rw [Mem.set_ne _ _ _ _ (by omega)]
          exact hMb
        · unfold srcRows
          rw [if_pos rfl]
          simp only [Mem.set_eq]
          exact if_pos ⟨trivial, by simp⟩
        · rw [byR_len]
          show (l.length + 1) * 1 ≤ _
          omega
        · show l.length + 1 ≤ _
          omega
        rw [List.take_of_length_le (by rw [byR_len]; exact Nat.le_refl _), ← byR_app, show l.length + (byR [32]).length = (l ++ [32]).length by simp [byR]]
        obtain ⟨l1, hl1⟩ : ∃ l1, l ++ [32] = l1 := ⟨_, rfl⟩
        rw [hl1] at hb1 ⊢
        simp -implicitDefEqProofs (maxSteps := 1000000) (disch := omega) only [↓xsP, ↓vc_seq, xsQ, xsT, xsR, xsD, ↓reduceIte, reduceCtorEq, eq_self, ne_eq, imp_self, forall_const, Nat.reduceEqDiff, Nat.reduceAdd, Nat.reduceSub, Nat.reduceMul, Nat.reduceLT, Nat.reduceLeDiff, Nat.reduceBEq, Nat.reduceDiv, Nat.reduceMod, Int.reduceToNat, Int.reduceNeg, Int.reduceAdd, Int.reduceSub, Int.reduceMul, Int.reduceEq, Int.reduceNe, Int.reduceLT, Int.reduceLE, Int.reduceGT, Int.reduceGE, f5, f11, f12, f13, hM7, hMb]
        refine ⟨.inl (by decide), ?_⟩
        obtain ⟨l2, hl2e⟩ : ∃ l2, l1 ++ Lib.itoa p.key = l2 := ⟨_, rfl⟩
        have hk1 := Lib.itoa_length_le p.key hpo.1.1 hpo.1.2
        have hk2 := Lib.itoa_length_le p.val hpo.2.1 hpo.2.2
        have hb2 : l2.length ≤ 9000000 := by
          rw [← hl2e, ← hl1, List.length_append, List.length_append]
          simp only [List.length_cons, List.length_nil]
          omega
        refine wcall_new l2.length (.cells 5 (byR l2) 0) [n0 + 2] (fun M' hle => (appI_spec (.ms (l := l1) (hle _ _ (Mem.set_eq _ _ _))) p.key hpo.1.1 hpo.1.2 (by omega)).mono ?_) ?_
        · rintro _ _ ⟨id', hid', rfl, rfl⟩
          rw [hl2e]
          exact ⟨id', hid', rfl, Mem.le_refl _⟩
        simp -implicitDefEqProofs (maxSteps := 1000000) (disch := omega) only [↓xsP, ↓vc_seq, xsQ, xsT, xsR, xsD, ↓reduceIte, reduceCtorEq, eq_self, ne_eq, imp_self, forall_const, Nat.reduceEqDiff, Nat.reduceAdd, Nat.reduceSub, Nat.reduceMul, Nat.reduceLT, Nat.reduceLeDiff, Nat.reduceBEq, Nat.reduceDiv, Nat.reduceMod, Int.reduceToNat, Int.reduceNeg, Int.reduceAdd, Int.reduceSub, Int.reduceMul, Int.reduceEq, Int.reduceNe, Int.reduceLT, Int.reduceLE, Int.reduceGT, Int.reduceGE, f5, f11, f12, f13, hM7, hMb]
        refine ⟨.inl (by decide), ?_⟩
        have key : ∀ X Y Z : Blk, ∃ N5, N5 = (((((N.set (n0 + 1) X).del idb).set (n0 + 2) Y).del (n0 + 2)).set (n0 + 5) Z) ∧ N5 id7 = some (.cells 32 [[.int .i64 p.key, .int .i64 p.val]] 0) ∧ N5 (n0 + 5) = some Z ∧ ∀ k bk, M k = some bk → N5 k = some bk := fun X Y Z => by
          refine ⟨_, rfl, ?_, Mem.set_eq _ _ _, fun k bk hk => ?_⟩
          · rw [Mem.set_ne _ _ _ _ (by omega), Mem.del_ne _ _ _ (by omega), Mem.set_ne _ _ _ _ (by omega), Mem.del_ne _ _ _ (by omega), Mem.set_ne _ _ _ _ (by omega)]
            exact hM7
          · have h1 := lt_of_bnd hidb hk
            have h2 := lt_of_bnd hn0 (hMM _ _ hk)
            rw [Mem.set_ne _ _ _ _ (by omega), Mem.del_ne _ _ _ (by omega), Mem.set_ne _ _ _ _ (by omega), Mem.del_ne _ _ _ (by omega), Mem.set_ne _ _ _ _ (by omega)]
            exact hMM _ _ hk
        obtain ⟨N5, eN5, hN7, hNb, hNM⟩ := key (.cells 5 [[.int .u8 32]] 0) (.cells 5 (byR l1) 0) (.cells 5 (byR l2) 0)
        rw [← eN5]
        obtain ⟨idc, hidc⟩ : ∃ idc, idc = n0 + 5 := ⟨_, rfl⟩
        have hMc : M idc = none := by
          rw [hidc]
          cases hm : M (n0 + 5) with
          | none => rfl
          | some bk => have := hMM _ _ hm; rw [hn0 _ (by omega)] at this; cases this
        rw [← hidc] at hNb
        rw [← hidc]
        have hl2l : l2.length ≤ l.length + 25 := by
          rw [← hl2e, ← hl1, List.length_append, List.length_append]
          simp only [List.length_cons, List.length_nil]
          omega
        have hl2t : l2 = l ++ 32 :: Lib.itoa p.key := by rw [← hl2e, ← hl1, List.append_assoc]; rfl
        clear eN5 hM7 hMb hMM hn0 z1 z2 key hidc hl1 hb1
        refine xwrite (fun n0 => [ (2, idc), (5, n0 + 2)]) [2, 5] [1, 2, 5] [[], [], [], [2, 1], [2, 1], [], []] (by kernel_rfl) (by kernel_rfl) (by kernel_rfl) (by kernel_rfl) (fun n0 hn0 => ⟨rfl, ?_, ?_⟩)
        · exact TOk_cons (.inl (lt_of_bnd hn0 hNb)) (TOk_cons (.inr ⟨2, by decide, ⟨by decide, by decide⟩, rfl⟩) (TOk_nil _ _))
        · have z1 := lt_of_bnd hn0 hN7
          have z2 := lt_of_bnd hn0 hNb
          have n7c := ne_ty hN7 hNb (by decide)
          simp -implicitDefEqProofs (maxSteps := 1000000) (disch := omega) only [↓xsP, ↓vc_seq, xsQ, xsT, xsR, xsD, ↓reduceIte, reduceCtorEq, eq_self, ne_eq, imp_self, forall_const, Nat.reduceEqDiff, Nat.reduceAdd, Nat.reduceSub, Nat.reduceMul, Nat.reduceLT, Nat.reduceLeDiff, Nat.reduceBEq, Nat.reduceDiv, Nat.reduceMod, Int.reduceToNat, Int.reduceNeg, Int.reduceAdd, Int.reduceSub, Int.reduceMul, Int.reduceEq, Int.reduceNe, Int.reduceLT, Int.reduceLE, Int.reduceGT, Int.reduceGE, f11, f12, f13, hN7, hNb]
          have hb3 : (l2 ++ [58]).length ≤ 9000001 := by rw [List.length_append]; simp only [List.length_cons, List.length_nil]; omega
          refine ⟨.inl (by decide), ?_⟩
          refine wapp_ms _ _ _ _ _ 5 _ _ ti_96 rfl ti_5 (by kernel_rfl) (by decide) idc l2.length _ (rows := byR l2) (keep := 0) (byR [58]) ?_ ?_ (by rw [byR_len]; exact Nat.le_refl _) (Nat.zero_le _) ?_ ?_ ?_
          · rw [Mem.set_ne _ _ _ _ (by omega)]
            exact hNb
          · unfold srcRows
            rw [if_pos rfl]
            simp only [Mem.set_eq]
            exact if_pos ⟨trivial, by simp⟩
          · rw [byR_len]
            show (l2.length + 1) * 1 ≤ _
            omega
          · show l2.length + 1 ≤ _
            omega
          rw [List.take_of_length_le (by rw [byR_len]; exact Nat.le_refl _), ← byR_app, show l2.length + (byR [58]).length = (l2 ++ [58]).length by simp [byR]]
          obtain ⟨l3, hl3⟩ : ∃ l3, l2 ++ [58] = l3 := ⟨_, rfl⟩
          rw [hl3] at hb3 ⊢
          simp -implicitDefEqProofs (maxSteps := 1000000) (disch := omega) only [↓xsP, ↓vc_seq, xsQ, xsT, xsR, xsD, ↓reduceIte, reduceCtorEq, eq_self, ne_eq, imp_self, forall_const, Nat.reduceEqDiff, Nat.reduceAdd, Nat.reduceSub, Nat.reduceMul, Nat.reduceLT, Nat.reduceLeDiff, Nat.reduceBEq, Nat.reduceDiv, Nat.reduceMod, Int.reduceToNat, Int.reduceNeg, Int.reduceAdd, Int.reduceSub, Int.reduceMul, Int.reduceEq, Int.reduceNe, Int.reduceLT, Int.reduceLE, Int.reduceGT, Int.reduceGE, f11, f12, f13, hN7, hNb]
          refine ⟨.inl (by decide), ?_⟩
          obtain ⟨l4, hl4⟩ : ∃ l4, l3 ++ Lib.itoa p.val = l4 := ⟨_, rfl⟩
          refine wcall_new l4.length (.cells 5 (byR l4) 0) [n0 + 2] (fun M' hle => (appI_spec (.ms (l := l3) (hle _ _ (Mem.set_eq _ _ _))) p.val hpo.2.1 hpo.2.2 (by omega)).mono ?_) ?_
          · rintro _ _ ⟨id', hid', rfl, rfl⟩
            rw [hl4]
            exact ⟨id', hid', rfl, Mem.le_refl _⟩
          simp -implicitDefEqProofs (maxSteps := 1000000) (disch := omega) only [↓xsP, ↓vc_seq, xsQ, xsT, xsR, xsD, ↓reduceIte, reduceCtorEq, eq_self, ne_eq, imp_self, forall_const, Nat.reduceEqDiff, Nat.reduceAdd, Nat.reduceSub, Nat.reduceMul, Nat.reduceLT, Nat.reduceLeDiff, Nat.reduceBEq, Nat.reduceDiv, Nat.reduceMod, Int.reduceToNat, Int.reduceNeg, Int.reduceAdd, Int.reduceSub, Int.reduceMul, Int.reduceEq, Int.reduceNe, Int.reduceLT, Int.reduceLE, Int.reduceGT, Int.reduceGE, f11, f12, f13, hN7, hNb]
          refine ⟨.inl (by decide), s.length - (i + 1), M.set (n0 + 5) (.cells 5 (byR l4) 0), by omega, fun k bk hk => ?_, i + 1, n0 + 5, l4, by omega, rfl, fun j hj => ?_, ?_, ?_, rfl, by simp, rfl⟩
          · rw [Mem.set_app] at hk ⊢
            by_cases h : n0 + 5 = k
            · rw [if_pos h] at hk ⊢
              exact hk
            · rw [if_neg h] at hk ⊢
              have h2 := lt_of_bnd hn0 (hNM _ _ hk)
              have h3 : idc ≠ k := fun e => by
                rw [← e, hMc] at hk
                cases hk
              rw [Mem.del_ne _ _ _ (by omega), Mem.set_ne _ _ _ _ (by omega), Mem.del_ne _ _ _ h3, Mem.set_ne _ _ _ _ (by omega)]
              exact hNM _ _ hk
          · cases hm : M j with
            | none => rfl
            | some bk => have := hNM _ _ hm; rw [hn0 j (by omega)] at this; cases this
          · rw [take_sc s default hil, List.flatMap_append, ← List.append_assoc, ← hl2, hp, ← hl4, ← hl3, hl2t]
            simp [prTxt]
          · rw [← hl4, ← hl3, List.length_append, List.length_append]
            simp only [List.length_cons, List.length_nil]
            omega
    · have hil : i = s.length := by omega
      simp -implicitDefEqProofs (maxSteps := 1000000) (disch := omega) only [↓xsP, ↓vc_seq, xsQ, xsT, xsR, xsD, ↓reduceIte, reduceCtorEq, eq_self, ne_eq, imp_self, forall_const, Nat.reduceEqDiff, Nat.reduceAdd, Nat.reduceSub, Nat.reduceMul, Nat.reduceLT, Nat.reduceLeDiff, Nat.reduceBEq, Nat.reduceDiv, Nat.reduceMod, Int.reduceToNat, Int.reduceNeg, Int.reduceAdd, Int.reduceSub, Int.reduceMul, Int.reduceEq, Int.reduceNe, Int.reduceLT, Int.reduceLE, Int.reduceGT, Int.reduceGE, f5, f11, f12, f13]
      rw [if_pos (by rw [byR_len]; exact Nat.le_refl _), List.take_of_length_le (by rw [byR_len]; exact Nat.le_refl _), bytes_byR]
      simp -implicitDefEqProofs (maxSteps := 1000000) (disch := omega) only [↓xsP, ↓vc_seq, xsQ, xsT, xsR, xsD, ↓reduceIte, reduceCtorEq, eq_self, ne_eq, imp_self, forall_const, Nat.reduceEqDiff, Nat.reduceAdd, Nat.reduceSub, Nat.reduceMul, Nat.reduceLT, Nat.reduceLeDiff, Nat.reduceBEq, Nat.reduceDiv, Nat.reduceMod, Int.reduceToNat, Int.reduceNeg, Int.reduceAdd, Int.reduceSub, Int.reduceMul, Int.reduceEq, Int.reduceNe, Int.reduceLT, Int.reduceLE, Int.reduceGT, Int.reduceGE, f5, f11, f12, f13]
      refine fin_ok (le_new (Mem.le_refl _) hidb) ⟨?_, rfl⟩
      rw [hl2, hil, List.take_of_length_le (Nat.le_refl _)]
      rfl
end Go.X
set_option linter.unusedVariables false
set_option linter.unusedSimpArgs false
set_option maxRecDepth 100000
namespace Go.X

/-! ### numerals -/
def sgD (c : UInt8) : Bool := c.toNat == 45 || (decide (48 ≤ c.toNat) && decide (c.toNat ≤ 57))
def dval (l : List UInt8) : Nat := l.foldl (fun a c => a * 10 + (c.toNat - 48)) 0
theorem dval_app (a : List UInt8) (c : UInt8) : dval (a ++ [c]) = dval a * 10 + (c.toNat - 48) := by simp [dval]
theorem dig_toNat {k : Nat} (h : k < 10) : (UInt8.ofNat (48 + k)).toNat = 48 + k := by
  rw [UInt8.toNat_ofNat']
  omega
theorem dval_dec (u : Nat) : dval (Lib.decDigits u) = u := by
  induction u using Nat.strongRecOn with
  | _ u ih =>
    rw [Lib.decDigits]
    split
    · rename_i h
      simp only [dval, List.foldl_cons, List.foldl_nil]
      rw [dig_toNat h]
      omega
    · rename_i h
      rw [dval_app, ih (u / 10) (by omega), dig_toNat (by omega)]
      omega
theorem dec_D (u : Nat) : ∀ c ∈ Lib.decDigits u, 48 ≤ c.toNat ∧ c.toNat ≤ 57 := by
  induction u using Nat.strongRecOn with
  | _ u ih =>
    rw [Lib.decDigits]
    split
    · rename_i h
      intro c hc
      rw [List.mem_singleton.1 hc, dig_toNat h]
      omega
    · rename_i h
      intro c hc
      rcases List.mem_append.1 hc with hc | hc
      · exact ih (u / 10) (by omega) c hc
      · rw [List.mem_singleton.1 hc, dig_toNat (by omega)]
        omega
theorem dec_inj {u v : Nat} (h : Lib.decDigits u = Lib.decDigits v) : u = v := by rw [← dval_dec u, h, dval_dec]
theorem itoa_D (n : Int) : ∀ c ∈ Lib.itoa n, sgD c = true := by
  have hd : ∀ u, ∀ c ∈ Lib.decDigits u, sgD c = true := fun u c hc => by
    have := dec_D u c hc
    simp [sgD, this.1, this.2]
  rw [Lib.itoa]
  split
  · intro c hc
    rcases List.mem_cons.1 hc with rfl | hc
    · rfl
    · exact hd _ c hc
  · exact hd _
theorem itoa_inj {m n : Int} (h : Lib.itoa m = Lib.itoa n) : m = n := by
  have hne : ∀ u v, (45 :: Lib.decDigits u : List UInt8) ≠ Lib.decDigits v := fun u v e => by
    have := (dec_D v 45 (by rw [← e]; simp)).1
    simp at this
  rw [Lib.itoa, Lib.itoa] at h
  split at h
  · split at h
    · have := dec_inj (List.cons.inj h).2
      omega
    · exact absurd h (hne _ _)
  · split at h
    · exact absurd h.symm (hne _ _)
    · have := dec_inj h
      omega
/-- What begins with signs of numerals up to another sign is told by the whole. -/
theorem span_eq {p : UInt8 → Bool} {a b r s : List UInt8} (ha : ∀ c ∈ a, p c = true) (hb : ∀ c ∈ b, p c = true) (hr : ∀ c, r.head? = some c → p c = false) (hs : ∀ c, s.head? = some c → p c = false) (h : a ++ r = b ++ s) : a = b ∧ r = s := by
  have key : ∀ {a r : List UInt8}, (∀ c ∈ a, p c = true) → (∀ c, r.head? = some c → p c = false) → (a ++ r).takeWhile p = a := by
    intro a
    induction a with
    | nil =>
      intro r _ hr
      cases r with
      | nil => rfl
      | cons c r => rw [List.nil_append, List.takeWhile_cons, hr c rfl]; rfl
    | cons c a ih =>
      intro r ha hr
      rw [List.cons_append, List.takeWhile_cons, ha c (by simp), if_pos rfl, ih (fun c hc => ha c (by simp [hc])) hr]
  have e : a = b := by rw [← key ha hr, h, key hb hs]
  subst e
  exact ⟨rfl, List.append_cancel_left h⟩
def sTxt (c1 c2 : UInt8) (s : List Pr) : List UInt8 := s.flatMap fun p => c1 :: Lib.itoa p.key ++ c2 :: Lib.itoa p.val
theorem sTxt_head {c1 c2 : UInt8} (h1 : sgD c1 = false) (s : List Pr) : ∀ c, (sTxt c1 c2 s).head? = some c → sgD c = false := fun c hc => by
  cases s with
  | nil => cases hc
  | cons p s =>
    simp only [sTxt, List.flatMap_cons, List.cons_append, List.head?_cons, Option.some.injEq] at hc
    rw [← hc]
    exact h1
theorem sTxt_inj {c1 c2 : UInt8} (h1 : sgD c1 = false) (h2 : sgD c2 = false) : ∀ {s t : List Pr}, sTxt c1 c2 s = sTxt c1 c2 t → s = t
  | [], [], _ => rfl
  | [], q :: t, h => by simp [sTxt] at h
  | p :: s, [], h => by simp [sTxt] at h
  | p :: s, q :: t, h => by
    have e : ∀ (p : Pr) (s : List Pr), sTxt c1 c2 (p :: s) = c1 :: (Lib.itoa p.key ++ (c2 :: (Lib.itoa p.val ++ sTxt c1 c2 s))) := fun p s => by simp [sTxt]
    rw [e, e] at h
    have h := (List.cons.inj h).2
    obtain ⟨k1, h⟩ := span_eq (itoa_D _) (itoa_D _) (fun c hc => by simp at hc; rw [← hc]; exact h2) (fun c hc => by simp at hc; rw [← hc]; exact h2) h
    have h := (List.cons.inj h).2
    obtain ⟨k2, h⟩ := span_eq (itoa_D _) (itoa_D _) (sTxt_head h1 s) (sTxt_head h1 t) h
    have k3 := sTxt_inj h1 h2 h
    have k1 := itoa_inj k1
    have k2 := itoa_inj k2
    obtain ⟨pk, pv⟩ := p
    obtain ⟨qk, qv⟩ := q
    simp only at k1 k2
    rw [k1, k2, k3]
theorem dsTxt_inj {c1 c2 : UInt8} (h1 : sgD c1 = false) (h2 : sgD c2 = false) {d e : Int} {s t : List Pr} (h : Lib.itoa d ++ sTxt c1 c2 s = Lib.itoa e ++ sTxt c1 c2 t) : d = e ∧ s = t := by
  obtain ⟨k1, k2⟩ := span_eq (itoa_D _) (itoa_D _) (sTxt_head h1 s) (sTxt_head h1 t) h
  exact ⟨itoa_inj k1, sTxt_inj h1 h2 k2⟩
theorem stTxt_inj {d e : Int} {s t : List Pr} (h : stTxt d s = stTxt e t) : d = e ∧ s = t := dsTxt_inj (c1 := 32) (c2 := 58) (by decide) (by decide) h

/-! ### sets of texts -/
def sent (l : List UInt8) : Lf × Lf := (txt l, .int .i64 1)
def kfind : List (List UInt8) → List UInt8 → Nat → Option Nat
  | [], _, _ => none
  | a :: r, l, i => if l = a then some i else kfind r l (i + 1)
theorem txt_eq (a b : List UInt8) : sameK (txt a) (txt b) = some (decide (a = b)) := by
  simp only [txt, sameK, Option.some.injEq]
  refine decide_eq_decide.2 ⟨fun h => ?_, fun h => by rw [h]⟩
  have := congrArg (fun x : ByteArray => x.data.toList) h
  simpa using this
theorem findA_txt (l : List UInt8) (ks : List (List UInt8)) : ∀ j, findA (txt l) (ks.map sent) j = some ((kfind ks l j).map fun i => (i, .int .i64 1)) := by
  induction ks with
  | nil => intro j; rfl
  | cons a r ih =>
    intro j
    simp only [List.map_cons, sent, findA, txt_eq, kfind]
    by_cases h : l = a
    · simp [h]
    · simp only [h, decide_false, if_false]
      exact ih _
theorem kfind_mem {ks : List (List UInt8)} {l : List UInt8} : ∀ {j i : Nat}, kfind ks l j = some i → j ≤ i ∧ ks[i - j]? = some l := by
  induction ks with
  | nil => intro j i h; cases h
  | cons a r ih =>
    intro j i h
    simp only [kfind] at h
    split at h
    · rename_i e
      simp only [Option.some.injEq] at h
      subst h
      simp [e]
    · obtain ⟨h1, h2⟩ := ih h
      refine ⟨by omega, ?_⟩
      rw [show i - j = (i - (j + 1)) + 1 by omega]
      simpa using h2
theorem kfind_none {ks : List (List UInt8)} {l : List UInt8} : ∀ {j : Nat}, kfind ks l j = none ↔ l ∉ ks := by
  induction ks with
  | nil => intro j; simp [kfind]
  | cons a r ih =>
    intro j
    simp only [kfind]
    split
    · rename_i e; simp [e]
    · rename_i e; simp [e, ih]
structure SIMap (P : Program) (t : TypeId) : Prop where
  k : ∃ ti K E tk te, tiOf P t = some ti ∧ ti.d = .map K E ∧ tiOf P K = some tk ∧ tk.d = .string ∧ tiOf P E = some te ∧ te.zero = .l (.int .i64 0)
theorem lookup_txt {P : Program} {M : Mem} {t : TypeId} (ht : SIMap P t) {id : Nat} {ks : List (List UInt8)} (hM : M id = some (.map (ks.map sent))) (l : List UInt8) :
    lookupA P M t (.l (.mp id)) (.l (txt l)) false = some (.l (.int .i64 (if l ∈ ks then 1 else 0))) := by
  obtain ⟨ti, K, E, tk, te, h1, h2, h3, h4, h5, h6⟩ := ht.k
  unfold lookupA entsA
  have hk : keyT tk.d (txt l) = true := by rw [h4]; rfl
  simp only [h1, hM, h2, h3, h5, hk, if_true, findA_txt]
  cases hf : kfind ks l 0 with
  | none => simp [h6, kfind_none.1 hf]
  | some i =>
    have := List.mem_of_getElem? (kfind_mem hf).2
    simp [this]
def kput (ks : List (List UInt8)) (l : List UInt8) : List (List UInt8) := if l ∈ ks then ks else ks ++ [l]
theorem kput_mem {ks : List (List UInt8)} {l x : List UInt8} : x ∈ kput ks l ↔ x ∈ ks ∨ x = l := by
  rw [kput]
  split
  · rename_i h
    exact ⟨.inl, fun h' => h'.elim id fun e => e ▸ h⟩
  · simp
theorem mapUpd_txt {P : Program} {M : Mem} {t : TypeId} (ht : SIMap P t) {id : Nat} {ks : List (List UInt8)} (hM : M id = some (.map (ks.map sent))) (l : List UInt8) :
    mapUpdA P M t (.l (.mp id)) (.l (txt l)) (.l (.int .i64 1)) = some (M.set id (.map ((kput ks l).map sent))) := by
  obtain ⟨ti, K, E, tk, te, h1, h2, h3, h4, h5, h6⟩ := ht.k
  unfold mapUpdA
  have hk : keyT tk.d (txt l) = true := by rw [h4]; rfl
  simp only [h1, hM, h2, h3, hk, if_true, findA_txt]
  cases hf : kfind ks l 0 with
  | none =>
    rw [kput, if_neg (kfind_none.1 hf)]
    simp [sent]
  | some i =>
    obtain ⟨-, h7⟩ := kfind_mem hf
    rw [kput, if_pos (List.mem_of_getElem? h7)]
    simp only [Option.map_some]
    congr 3
    refine List.ext_getElem? fun j => ?_
    rw [List.getElem?_set]
    split
    · rename_i e
      subst e
      rw [Nat.sub_zero] at h7
      rw [List.getElem?_map, h7]
      have := (List.getElem?_eq_some_iff.1 h7).1
      simp [this, sent]
    · rfl
end Go.X
set_option linter.unusedVariables false
set_option linter.unusedSimpArgs false
set_option maxHeartbeats 20000000
set_option maxRecDepth 100000
namespace Go.X
open Go.Proofs.Tryd (prog)

theorem and_one' (i : Nat) (h : i ≤ 1000000) : bitsA .and .i64 (i : Int) 1 = ((i % 2 : Nat) : Int) := by
  have h1 : (BitVec.ofInt IntKind.i64.bits (i : Int) &&& BitVec.ofInt IntKind.i64.bits 1).toNat = i % 2 := by
    have e1 : (BitVec.ofInt IntKind.i64.bits (i : Int)).toNat = i := by
      rw [BitVec.toNat_ofInt]
      show ((i : Int) % ((2 ^ 64 : Nat) : Int)).toNat = i
      omega
    have e2 : (BitVec.ofInt IntKind.i64.bits (1 : Int)).toNat = 1 := by
      rw [BitVec.toNat_ofInt]
      rfl
    rw [BitVec.toNat_and, e1, e2, Nat.and_one_is_mod]
  rw [bitsA, h1, IntKind.wrap_i64]
  omega
theorem shr_nat (d i : Nat) (hi : i ≤ 16) : (d : Int).fdiv (2 ^ min i IntKind.i64.bits) = ((d / 2 ^ i : Nat) : Int) := by
  rw [show min i IntKind.i64.bits = i from Nat.min_eq_left (Nat.le_trans hi (by decide))]
  rw [Int.fdiv_eq_ediv_of_nonneg _ (by exact_mod_cast Nat.zero_le (2 ^ i))]
  exact_mod_cast (Int.natCast_ediv d (2 ^ i)).symm
theorem bit_dec {d i : Nat} (hd : d < 65536) (hi : i ≤ 16) : decide (bitsA .and .i64 ((d : Int).fdiv (2 ^ min i IntKind.i64.bits)) 1 = 0) = !d.testBit i := by
  rw [shr_nat d i hi, and_one' _ (Nat.le_trans (Nat.div_le_self _ _) (by omega)), Nat.testBit_eq_decide_div_mod_eq]
  rcases Nat.mod_two_eq_zero_or_one (d / 2 ^ i) with h | h
  · rw [h]; rfl
  · rw [h]; rfl
def mustC (c : Cl) : Prop := 0 ≤ c.fin ∧ c.ans.err = 0
def neverC (c : Cl) : Prop := 0 ≤ c.fin ∧ c.ans.err ≠ 0
def dueP (C : List Cl) (d : Nat) : Prop := ∃ i, i < C.length ∧ d.testBit i = false ∧ mustC (C.getD i default)
def freeP (C : List Cl) (d i : Nat) : Prop := (∀ j, j < C.length → d.testBit j = false → mustC (C.getD j default) → ¬ befP (C.getD j default) (C.getD i default)) ∧ d.testBit i = false ∧ ¬ neverC (C.getD i default)
def sRow (C : List Cl) (idm : Nat) (o : Lf) : List Lf := [.sl (C.map Cl.row), .mp idm, o]
theorem must_spec (c : Cl) (M : Mem) : XCalls Go.Proofs.Tryd.prog 48 [.agg c.row] M fun r M' => r = .l (.bool (bof (mustC c))) ∧ M' = M := by
  refine xcalls_intro (rs := [.tmp 2]) Go.Proofs.Tryd.func48 rfl (by kernel_rfl) rfl rfl (by kernel_rfl) (by simp) ?_
  simp -implicitDefEqProofs (maxSteps := 1000000) (disch := omega) only [↓xsP, ↓vc_seq, xsQ, xsT, xsR, xsD, ↓reduceIte, reduceCtorEq, eq_self, ne_eq, imp_self, forall_const, Nat.reduceEqDiff, Nat.reduceAdd, Nat.reduceSub, Nat.reduceMul, Nat.reduceLT, Nat.reduceLeDiff, Nat.reduceBEq, Nat.reduceDiv, Nat.reduceMod, Int.reduceToNat, Int.reduceNeg, Int.reduceAdd, Int.reduceSub, Int.reduceMul, Int.reduceEq, Int.reduceNe, Int.reduceLT, Int.reduceLE, Int.reduceGT, Int.reduceGE]
  refine newI_intro fun id hid => ?_
  simp -implicitDefEqProofs (maxSteps := 1000000) (disch := omega) only [↓xsP, ↓vc_seq, xsQ, xsT, xsR, xsD, ↓reduceIte, reduceCtorEq, eq_self, ne_eq, imp_self, forall_const, Nat.reduceEqDiff, Nat.reduceAdd, Nat.reduceSub, Nat.reduceMul, Nat.reduceLT, Nat.reduceLeDiff, Nat.reduceBEq, Nat.reduceDiv, Nat.reduceMod, Int.reduceToNat, Int.reduceNeg, Int.reduceAdd, Int.reduceSub, Int.reduceMul, Int.reduceEq, Int.reduceNe, Int.reduceLT, Int.reduceLE, Int.reduceGT, Int.reduceGE]
  have hle := le_new (b := .cells 77 [c.row] 0) (Mem.le_refl M) hid
  rw [row_cl] at hle
  refine gI_prop (fun h1 => ?_) (fun h1 => ?_)
  · simp -implicitDefEqProofs (maxSteps := 1000000) (disch := omega) only [↓xsP, ↓vc_seq, xsQ, xsT, xsR, xsD, ↓reduceIte, reduceCtorEq, eq_self, ne_eq, imp_self, forall_const, Nat.reduceEqDiff, Nat.reduceAdd, Nat.reduceSub, Nat.reduceMul, Nat.reduceLT, Nat.reduceLeDiff, Nat.reduceBEq, Nat.reduceDiv, Nat.reduceMod, Int.reduceToNat, Int.reduceNeg, Int.reduceAdd, Int.reduceSub, Int.reduceMul, Int.reduceEq, Int.reduceNe, Int.reduceLT, Int.reduceLE, Int.reduceGT, Int.reduceGE, h1]
    refine fin_ok hle ⟨?_, rfl⟩
    congr 2
    by_cases h2 : c.ans.err = 0
    · rw [decide_eq_true h2, bof_true ⟨h1, h2⟩]
    · rw [decide_eq_false h2, bof_false fun h => h2 h.2]
  · simp -implicitDefEqProofs (maxSteps := 1000000) (disch := omega) only [↓xsP, ↓vc_seq, xsQ, xsT, xsR, xsD, ↓reduceIte, reduceCtorEq, eq_self, ne_eq, imp_self, forall_const, Nat.reduceEqDiff, Nat.reduceAdd, Nat.reduceSub, Nat.reduceMul, Nat.reduceLT, Nat.reduceLeDiff, Nat.reduceBEq, Nat.reduceDiv, Nat.reduceMod, Int.reduceToNat, Int.reduceNeg, Int.reduceAdd, Int.reduceSub, Int.reduceMul, Int.reduceEq, Int.reduceNe, Int.reduceLT, Int.reduceLE, Int.reduceGT, Int.reduceGE, h1]
    refine fin_ok hle ⟨?_, rfl⟩
    rw [bof_false fun h => h1 h.1]
theorem never_spec (c : Cl) (M : Mem) : XCalls Go.Proofs.Tryd.prog 52 [.agg c.row] M fun r M' => r = .l (.bool (bof (neverC c))) ∧ M' = M := by
  refine xcalls_intro (rs := [.tmp 2]) Go.Proofs.Tryd.func52 rfl (by kernel_rfl) rfl rfl (by kernel_rfl) (by simp) ?_
  simp -implicitDefEqProofs (maxSteps := 1000000) (disch := omega) only [↓xsP, ↓vc_seq, xsQ, xsT, xsR, xsD, ↓reduceIte, reduceCtorEq, eq_self, ne_eq, imp_self, forall_const, Nat.reduceEqDiff, Nat.reduceAdd, Nat.reduceSub, Nat.reduceMul, Nat.reduceLT, Nat.reduceLeDiff, Nat.reduceBEq, Nat.reduceDiv, Nat.reduceMod, Int.reduceToNat, Int.reduceNeg, Int.reduceAdd, Int.reduceSub, Int.reduceMul, Int.reduceEq, Int.reduceNe, Int.reduceLT, Int.reduceLE, Int.reduceGT, Int.reduceGE]
  refine newI_intro fun id hid => ?_
  simp -implicitDefEqProofs (maxSteps := 1000000) (disch := omega) only [↓xsP, ↓vc_seq, xsQ, xsT, xsR, xsD, ↓reduceIte, reduceCtorEq, eq_self, ne_eq, imp_self, forall_const, Nat.reduceEqDiff, Nat.reduceAdd, Nat.reduceSub, Nat.reduceMul, Nat.reduceLT, Nat.reduceLeDiff, Nat.reduceBEq, Nat.reduceDiv, Nat.reduceMod, Int.reduceToNat, Int.reduceNeg, Int.reduceAdd, Int.reduceSub, Int.reduceMul, Int.reduceEq, Int.reduceNe, Int.reduceLT, Int.reduceLE, Int.reduceGT, Int.reduceGE]
  have hle := le_new (b := .cells 77 [c.row] 0) (Mem.le_refl M) hid
  rw [row_cl] at hle
  refine gI_prop (fun h1 => ?_) (fun h1 => ?_)
  · simp -implicitDefEqProofs (maxSteps := 1000000) (disch := omega) only [↓xsP, ↓vc_seq, xsQ, xsT, xsR, xsD, ↓reduceIte, reduceCtorEq, eq_self, ne_eq, imp_self, forall_const, Nat.reduceEqDiff, Nat.reduceAdd, Nat.reduceSub, Nat.reduceMul, Nat.reduceLT, Nat.reduceLeDiff, Nat.reduceBEq, Nat.reduceDiv, Nat.reduceMod, Int.reduceToNat, Int.reduceNeg, Int.reduceAdd, Int.reduceSub, Int.reduceMul, Int.reduceEq, Int.reduceNe, Int.reduceLT, Int.reduceLE, Int.reduceGT, Int.reduceGE, h1]
    refine fin_ok hle ⟨?_, rfl⟩
    congr 2
    by_cases h2 : c.ans.err = 0
    · rw [decide_eq_false (fun h => h h2), bof_false fun h => h.2 h2]
    · rw [decide_eq_true h2, bof_true ⟨h1, h2⟩]
  · simp -implicitDefEqProofs (maxSteps := 1000000) (disch := omega) only [↓xsP, ↓vc_seq, xsQ, xsT, xsR, xsD, ↓reduceIte, reduceCtorEq, eq_self, ne_eq, imp_self, forall_const, Nat.reduceEqDiff, Nat.reduceAdd, Nat.reduceSub, Nat.reduceMul, Nat.reduceLT, Nat.reduceLeDiff, Nat.reduceBEq, Nat.reduceDiv, Nat.reduceMod, Int.reduceToNat, Int.reduceNeg, Int.reduceAdd, Int.reduceSub, Int.reduceMul, Int.reduceEq, Int.reduceNe, Int.reduceLT, Int.reduceLE, Int.reduceGT, Int.reduceGE, h1]
    refine fin_ok hle ⟨?_, rfl⟩
    rw [bof_false fun h => h1 h.1]
theorem due_spec (C : List Cl) (hC : C.length ≤ 16) (d : Nat) (hd : d < 65536) (ids idm : Nat) (o : Lf) (M : Mem) (hM : M ids = some (.cells 58 [sRow C idm o] 0)) :
    XCalls Go.Proofs.Tryd.prog 33 [.l (.ptr ids 0 0), .l (.int .i64 d)] M fun r M' => r = .l (.bool (bof (dueP C d))) ∧ M' = M := by
  rw [sRow] at hM
  refine xcalls_intro (rs := [.tmp 4]) Go.Proofs.Tryd.func33 rfl (by kernel_rfl) rfl rfl (by kernel_rfl) (by simp) ?_
  simp -implicitDefEqProofs (maxSteps := 1000000) (disch := omega) only [↓xsP, ↓vc_seq, xsQ, xsT, xsR, xsD, ↓reduceIte, reduceCtorEq, eq_self, ne_eq, imp_self, forall_const, Nat.reduceEqDiff, Nat.reduceAdd, Nat.reduceSub, Nat.reduceMul, Nat.reduceLT, Nat.reduceLeDiff, Nat.reduceBEq, Nat.reduceDiv, Nat.reduceMod, Int.reduceToNat, Int.reduceNeg, Int.reduceAdd, Int.reduceSub, Int.reduceMul, Int.reduceEq, Int.reduceNe, Int.reduceLT, Int.reduceLE, Int.reduceGT, Int.reduceGE, hM]
  refine loopI_of (xloop (by kernel_rfl) (fun k fr M2 => ∃ i : Nat, i ≤ C.length ∧ k = C.length - i ∧ fr 1 = .l (.int .i64 d) ∧ fr 10 = .l (.sl (C.map Cl.row)) ∧ fr 11 = .l (.int .i64 C.length) ∧ fr 12 = .l (.int .i64 i) ∧ M2 = M ∧ ∀ j, j < i → d.testBit j = false → ¬ mustC (C.getD j default)) C.length ?_ ?_)
  · exact ⟨0, Nat.zero_le _, rfl, by simp -implicitDefEqProofs (maxSteps := 1000000) (disch := omega) only [↓xsP, ↓vc_seq, xsQ, xsT, xsR, xsD, ↓reduceIte, reduceCtorEq, eq_self, ne_eq, imp_self, forall_const, Nat.reduceEqDiff, Nat.reduceAdd, Nat.reduceSub, Nat.reduceMul, Nat.reduceLT, Nat.reduceLeDiff, Nat.reduceBEq, Nat.reduceDiv, Nat.reduceMod, Int.reduceToNat, Int.reduceNeg, Int.reduceAdd, Int.reduceSub, Int.reduceMul, Int.reduceEq, Int.reduceNe, Int.reduceLT, Int.reduceLE, Int.reduceGT, Int.reduceGE], by simp -implicitDefEqProofs (maxSteps := 1000000) (disch := omega) only [↓xsP, ↓vc_seq, xsQ, xsT, xsR, xsD, ↓reduceIte, reduceCtorEq, eq_self, ne_eq, imp_self, forall_const, Nat.reduceEqDiff, Nat.reduceAdd, Nat.reduceSub, Nat.reduceMul, Nat.reduceLT, Nat.reduceLeDiff, Nat.reduceBEq, Nat.reduceDiv, Nat.reduceMod, Int.reduceToNat, Int.reduceNeg, Int.reduceAdd, Int.reduceSub, Int.reduceMul, Int.reduceEq, Int.reduceNe, Int.reduceLT, Int.reduceLE, Int.reduceGT, Int.reduceGE], by simp -implicitDefEqProofs (maxSteps := 1000000) (disch := omega) only [↓xsP, ↓vc_seq, xsQ, xsT, xsR, xsD, ↓reduceIte, reduceCtorEq, eq_self, ne_eq, imp_self, forall_const, Nat.reduceEqDiff, Nat.reduceAdd, Nat.reduceSub, Nat.reduceMul, Nat.reduceLT, Nat.reduceLeDiff, Nat.reduceBEq, Nat.reduceDiv, Nat.reduceMod, Int.reduceToNat, Int.reduceNeg, Int.reduceAdd, Int.reduceSub, Int.reduceMul, Int.reduceEq, Int.reduceNe, Int.reduceLT, Int.reduceLE, Int.reduceGT, Int.reduceGE], by simp -implicitDefEqProofs (maxSteps := 1000000) (disch := omega) only [↓xsP, ↓vc_seq, xsQ, xsT, xsR, xsD, ↓reduceIte, reduceCtorEq, eq_self, ne_eq, imp_self, forall_const, Nat.reduceEqDiff, Nat.reduceAdd, Nat.reduceSub, Nat.reduceMul, Nat.reduceLT, Nat.reduceLeDiff, Nat.reduceBEq, Nat.reduceDiv, Nat.reduceMod, Int.reduceToNat, Int.reduceNeg, Int.reduceAdd, Int.reduceSub, Int.reduceMul, Int.reduceEq, Int.reduceNe, Int.reduceLT, Int.reduceLE, Int.reduceGT, Int.reduceGE, Int.cast_ofNat_Int], rfl, fun j hj => by omega⟩
  · rintro k fr M2 ⟨i, hi, rfl, f1, f10, f11, f12, rfl, hno⟩
    simp -implicitDefEqProofs (maxSteps := 1000000) (disch := omega) only [↓xsP, ↓vc_seq, xsQ, xsT, xsR, xsD, ↓reduceIte, reduceCtorEq, eq_self, ne_eq, imp_self, forall_const, Nat.reduceEqDiff, Nat.reduceAdd, Nat.reduceSub, Nat.reduceMul, Nat.reduceLT, Nat.reduceLeDiff, Nat.reduceBEq, Nat.reduceDiv, Nat.reduceMod, Int.reduceToNat, Int.reduceNeg, Int.reduceAdd, Int.reduceSub, Int.reduceMul, Int.reduceEq, Int.reduceNe, Int.reduceLT, Int.reduceLE, Int.reduceGT, Int.reduceGE, f1, f10, f11, f12]
    refine condI_prop (fun hlt => ?_) (fun hlt => ?_)
    · have hil : i < C.length := by omega
      simp -implicitDefEqProofs (maxSteps := 1000000) (disch := omega) only [↓xsP, ↓vc_seq, xsQ, xsT, xsR, xsD, ↓reduceIte, reduceCtorEq, eq_self, ne_eq, imp_self, forall_const, Nat.reduceEqDiff, Nat.reduceAdd, Nat.reduceSub, Nat.reduceMul, Nat.reduceLT, Nat.reduceLeDiff, Nat.reduceBEq, Nat.reduceDiv, Nat.reduceMod, Int.reduceToNat, Int.reduceNeg, Int.reduceAdd, Int.reduceSub, Int.reduceMul, Int.reduceEq, Int.reduceNe, Int.reduceLT, Int.reduceLE, Int.reduceGT, Int.reduceGE, f1, f10, f11, f12]
      refine newI_intro fun id6 hid6 => ?_
      simp -implicitDefEqProofs (maxSteps := 1000000) (disch := omega) only [↓xsP, ↓vc_seq, xsQ, xsT, xsR, xsD, ↓reduceIte, reduceCtorEq, eq_self, ne_eq, imp_self, forall_const, Nat.reduceEqDiff, Nat.reduceAdd, Nat.reduceSub, Nat.reduceMul, Nat.reduceLT, Nat.reduceLeDiff, Nat.reduceBEq, Nat.reduceDiv, Nat.reduceMod, Int.reduceToNat, Int.reduceNeg, Int.reduceAdd, Int.reduceSub, Int.reduceMul, Int.reduceEq, Int.reduceNe, Int.reduceLT, Int.reduceLE, Int.reduceGT, Int.reduceGE, f1, f10, f11, f12]
      rw [bit_dec hd (show i ≤ 16 by omega)]
      refine gI_t (fun hb => ?_) (fun hb => ?_)
      · have hb' : d.testBit i = false := by simpa using hb
        simp -implicitDefEqProofs (maxSteps := 1000000) (disch := omega) only [↓xsP, ↓vc_seq, xsQ, xsT, xsR, xsD, ↓reduceIte, reduceCtorEq, eq_self, ne_eq, imp_self, forall_const, Nat.reduceEqDiff, Nat.reduceAdd, Nat.reduceSub, Nat.reduceMul, Nat.reduceLT, Nat.reduceLeDiff, Nat.reduceBEq, Nat.reduceDiv, Nat.reduceMod, Int.reduceToNat, Int.reduceNeg, Int.reduceAdd, Int.reduceSub, Int.reduceMul, Int.reduceEq, Int.reduceNe, Int.reduceLT, Int.reduceLE, Int.reduceGT, Int.reduceGE, f1, f10, f11, f12, hb]
        refine call_of (must_spec _ _) ?_
        simp -implicitDefEqProofs (maxSteps := 1000000) (disch := omega) only [↓xsP, ↓vc_seq, xsQ, xsT, xsR, xsD, ↓reduceIte, reduceCtorEq, eq_self, ne_eq, imp_self, forall_const, Nat.reduceEqDiff, Nat.reduceAdd, Nat.reduceSub, Nat.reduceMul, Nat.reduceLT, Nat.reduceLeDiff, Nat.reduceBEq, Nat.reduceDiv, Nat.reduceMod, Int.reduceToNat, Int.reduceNeg, Int.reduceAdd, Int.reduceSub, Int.reduceMul, Int.reduceEq, Int.reduceNe, Int.reduceLT, Int.reduceLE, Int.reduceGT, Int.reduceGE, f1, f10, f11, f12, hb]
        refine condI_intro (fun hm => ?_) (fun hm => ?_)
        · simp -implicitDefEqProofs (maxSteps := 1000000) (disch := omega) only [↓xsP, ↓vc_seq, xsQ, xsT, xsR, xsD, ↓reduceIte, reduceCtorEq, eq_self, ne_eq, imp_self, forall_const, Nat.reduceEqDiff, Nat.reduceAdd, Nat.reduceSub, Nat.reduceMul, Nat.reduceLT, Nat.reduceLeDiff, Nat.reduceBEq, Nat.reduceDiv, Nat.reduceMod, Int.reduceToNat, Int.reduceNeg, Int.reduceAdd, Int.reduceSub, Int.reduceMul, Int.reduceEq, Int.reduceNe, Int.reduceLT, Int.reduceLE, Int.reduceGT, Int.reduceGE, f1, f10, f11, f12]
          refine fin_ok (le_new (Mem.le_refl _) hid6) ⟨?_, rfl⟩
          rw [bof_true (show dueP C d from ⟨i, hil, hb', bof_iff.1 hm⟩)]
        · simp -implicitDefEqProofs (maxSteps := 1000000) (disch := omega) only [↓xsP, ↓vc_seq, xsQ, xsT, xsR, xsD, ↓reduceIte, reduceCtorEq, eq_self, ne_eq, imp_self, forall_const, Nat.reduceEqDiff, Nat.reduceAdd, Nat.reduceSub, Nat.reduceMul, Nat.reduceLT, Nat.reduceLeDiff, Nat.reduceBEq, Nat.reduceDiv, Nat.reduceMod, Int.reduceToNat, Int.reduceNeg, Int.reduceAdd, Int.reduceSub, Int.reduceMul, Int.reduceEq, Int.reduceNe, Int.reduceLT, Int.reduceLE, Int.reduceGT, Int.reduceGE, f1, f10, f11, f12]
          refine ⟨C.length - (i + 1), M2, by omega, le_new (Mem.le_refl _) hid6, i + 1, by omega, rfl, by simp, rfl, fun j hj => ?_⟩
          by_cases e : j = i
          · rw [e]
            exact fun _ => bof_not.1 hm
          · exact hno j (by omega)
      · have hb' : d.testBit i = true := by simpa using hb
        simp -implicitDefEqProofs (maxSteps := 1000000) (disch := omega) only [↓xsP, ↓vc_seq, xsQ, xsT, xsR, xsD, ↓reduceIte, reduceCtorEq, eq_self, ne_eq, imp_self, forall_const, Nat.reduceEqDiff, Nat.reduceAdd, Nat.reduceSub, Nat.reduceMul, Nat.reduceLT, Nat.reduceLeDiff, Nat.reduceBEq, Nat.reduceDiv, Nat.reduceMod, Int.reduceToNat, Int.reduceNeg, Int.reduceAdd, Int.reduceSub, Int.reduceMul, Int.reduceEq, Int.reduceNe, Int.reduceLT, Int.reduceLE, Int.reduceGT, Int.reduceGE, f1, f10, f11, f12, hb]
        refine ⟨C.length - (i + 1), M2, by omega, le_new (Mem.le_refl _) hid6, i + 1, by omega, rfl, by simp, rfl, fun j hj => ?_⟩
        by_cases e : j = i
        · rw [e, hb']
          exact fun h => by cases h
        · exact hno j (by omega)
    · simp -implicitDefEqProofs (maxSteps := 1000000) (disch := omega) only [↓xsP, ↓vc_seq, xsQ, xsT, xsR, xsD, ↓reduceIte, reduceCtorEq, eq_self, ne_eq, imp_self, forall_const, Nat.reduceEqDiff, Nat.reduceAdd, Nat.reduceSub, Nat.reduceMul, Nat.reduceLT, Nat.reduceLeDiff, Nat.reduceBEq, Nat.reduceDiv, Nat.reduceMod, Int.reduceToNat, Int.reduceNeg, Int.reduceAdd, Int.reduceSub, Int.reduceMul, Int.reduceEq, Int.reduceNe, Int.reduceLT, Int.reduceLE, Int.reduceGT, Int.reduceGE, f1, f10, f11, f12]
      refine fin_ok (Mem.le_refl _) ⟨?_, rfl⟩
      rw [bof_false]
      rintro ⟨i', h1, h2, h3⟩
      exact hno i' (by omega) h2 h3
theorem free_spec (C : List Cl) (hC : C.length ≤ 16) (d : Nat) (hd : d < 65536) (i : Nat) (hi : i < C.length) (ids idm : Nat) (o : Lf) (M : Mem) (hM : M ids = some (.cells 58 [sRow C idm o] 0)) :
    XCalls Go.Proofs.Tryd.prog 35 [.l (.ptr ids 0 0), .l (.int .i64 d), .l (.int .i64 i)] M fun r M' => r = .l (.bool (bof (freeP C d i))) ∧ M' = M := by
  rw [sRow] at hM
  refine xcalls_intro (rs := [.tmp 6]) Go.Proofs.Tryd.func35 rfl (by kernel_rfl) rfl rfl (by kernel_rfl) (by simp) ?_
  simp -implicitDefEqProofs (maxSteps := 1000000) (disch := omega) only [↓xsP, ↓vc_seq, xsQ, xsT, xsR, xsD, ↓reduceIte, reduceCtorEq, eq_self, ne_eq, imp_self, forall_const, Nat.reduceEqDiff, Nat.reduceAdd, Nat.reduceSub, Nat.reduceMul, Nat.reduceLT, Nat.reduceLeDiff, Nat.reduceBEq, Nat.reduceDiv, Nat.reduceMod, Int.reduceToNat, Int.reduceNeg, Int.reduceAdd, Int.reduceSub, Int.reduceMul, Int.reduceEq, Int.reduceNe, Int.reduceLT, Int.reduceLE, Int.reduceGT, Int.reduceGE, hM]
  refine loopI_of (xloop (by kernel_rfl) (fun k fr M2 => ∃ j : Nat, j ≤ C.length ∧ k = C.length - j ∧ fr 0 = .l (.ptr ids 0 0) ∧ fr 1 = .l (.int .i64 d) ∧ fr 2 = .l (.int .i64 i) ∧ fr 12 = .l (.sl (C.map Cl.row)) ∧ fr 13 = .l (.int .i64 C.length) ∧ fr 14 = .l (.int .i64 j) ∧ M2 = M ∧ ∀ a, a < j → d.testBit a = false → mustC (C.getD a default) → ¬ befP (C.getD a default) (C.getD i default)) C.length ?_ ?_)
  · exact ⟨0, Nat.zero_le _, rfl, by simp -implicitDefEqProofs (maxSteps := 1000000) (disch := omega) only [↓xsP, ↓vc_seq, xsQ, xsT, xsR, xsD, ↓reduceIte, reduceCtorEq, eq_self, ne_eq, imp_self, forall_const, Nat.reduceEqDiff, Nat.reduceAdd, Nat.reduceSub, Nat.reduceMul, Nat.reduceLT, Nat.reduceLeDiff, Nat.reduceBEq, Nat.reduceDiv, Nat.reduceMod, Int.reduceToNat, Int.reduceNeg, Int.reduceAdd, Int.reduceSub, Int.reduceMul, Int.reduceEq, Int.reduceNe, Int.reduceLT, Int.reduceLE, Int.reduceGT, Int.reduceGE], by simp -implicitDefEqProofs (maxSteps := 1000000) (disch := omega) only [↓xsP, ↓vc_seq, xsQ, xsT, xsR, xsD, ↓reduceIte, reduceCtorEq, eq_self, ne_eq, imp_self, forall_const, Nat.reduceEqDiff, Nat.reduceAdd, Nat.reduceSub, Nat.reduceMul, Nat.reduceLT, Nat.reduceLeDiff, Nat.reduceBEq, Nat.reduceDiv, Nat.reduceMod, Int.reduceToNat, Int.reduceNeg, Int.reduceAdd, Int.reduceSub, Int.reduceMul, Int.reduceEq, Int.reduceNe, Int.reduceLT, Int.reduceLE, Int.reduceGT, Int.reduceGE], by simp -implicitDefEqProofs (maxSteps := 1000000) (disch := omega) only [↓xsP, ↓vc_seq, xsQ, xsT, xsR, xsD, ↓reduceIte, reduceCtorEq, eq_self, ne_eq, imp_self, forall_const, Nat.reduceEqDiff, Nat.reduceAdd, Nat.reduceSub, Nat.reduceMul, Nat.reduceLT, Nat.reduceLeDiff, Nat.reduceBEq, Nat.reduceDiv, Nat.reduceMod, Int.reduceToNat, Int.reduceNeg, Int.reduceAdd, Int.reduceSub, Int.reduceMul, Int.reduceEq, Int.reduceNe, Int.reduceLT, Int.reduceLE, Int.reduceGT, Int.reduceGE], by simp -implicitDefEqProofs (maxSteps := 1000000) (disch := omega) only [↓xsP, ↓vc_seq, xsQ, xsT, xsR, xsD, ↓reduceIte, reduceCtorEq, eq_self, ne_eq, imp_self, forall_const, Nat.reduceEqDiff, Nat.reduceAdd, Nat.reduceSub, Nat.reduceMul, Nat.reduceLT, Nat.reduceLeDiff, Nat.reduceBEq, Nat.reduceDiv, Nat.reduceMod, Int.reduceToNat, Int.reduceNeg, Int.reduceAdd, Int.reduceSub, Int.reduceMul, Int.reduceEq, Int.reduceNe, Int.reduceLT, Int.reduceLE, Int.reduceGT, Int.reduceGE], by simp -implicitDefEqProofs (maxSteps := 1000000) (disch := omega) only [↓xsP, ↓vc_seq, xsQ, xsT, xsR, xsD, ↓reduceIte, reduceCtorEq, eq_self, ne_eq, imp_self, forall_const, Nat.reduceEqDiff, Nat.reduceAdd, Nat.reduceSub, Nat.reduceMul, Nat.reduceLT, Nat.reduceLeDiff, Nat.reduceBEq, Nat.reduceDiv, Nat.reduceMod, Int.reduceToNat, Int.reduceNeg, Int.reduceAdd, Int.reduceSub, Int.reduceMul, Int.reduceEq, Int.reduceNe, Int.reduceLT, Int.reduceLE, Int.reduceGT, Int.reduceGE], by simp -implicitDefEqProofs (maxSteps := 1000000) (disch := omega) only [↓xsP, ↓vc_seq, xsQ, xsT, xsR, xsD, ↓reduceIte, reduceCtorEq, eq_self, ne_eq, imp_self, forall_const, Nat.reduceEqDiff, Nat.reduceAdd, Nat.reduceSub, Nat.reduceMul, Nat.reduceLT, Nat.reduceLeDiff, Nat.reduceBEq, Nat.reduceDiv, Nat.reduceMod, Int.reduceToNat, Int.reduceNeg, Int.reduceAdd, Int.reduceSub, Int.reduceMul, Int.reduceEq, Int.reduceNe, Int.reduceLT, Int.reduceLE, Int.reduceGT, Int.reduceGE, Int.cast_ofNat_Int], rfl, fun j hj => by omega⟩
  · rintro k fr M2 ⟨j, hj, rfl, f0, f1, f2, f12, f13, f14, rfl, hno⟩
    simp -implicitDefEqProofs (maxSteps := 1000000) (disch := omega) only [↓xsP, ↓vc_seq, xsQ, xsT, xsR, xsD, ↓reduceIte, reduceCtorEq, eq_self, ne_eq, imp_self, forall_const, Nat.reduceEqDiff, Nat.reduceAdd, Nat.reduceSub, Nat.reduceMul, Nat.reduceLT, Nat.reduceLeDiff, Nat.reduceBEq, Nat.reduceDiv, Nat.reduceMod, Int.reduceToNat, Int.reduceNeg, Int.reduceAdd, Int.reduceSub, Int.reduceMul, Int.reduceEq, Int.reduceNe, Int.reduceLT, Int.reduceLE, Int.reduceGT, Int.reduceGE, f0, f1, f2, f12, f13, f14]
    refine condI_prop (fun hlt => ?_) (fun hlt => ?_)
    · have hjl : j < C.length := by omega
      simp -implicitDefEqProofs (maxSteps := 1000000) (disch := omega) only [↓xsP, ↓vc_seq, xsQ, xsT, xsR, xsD, ↓reduceIte, reduceCtorEq, eq_self, ne_eq, imp_self, forall_const, Nat.reduceEqDiff, Nat.reduceAdd, Nat.reduceSub, Nat.reduceMul, Nat.reduceLT, Nat.reduceLeDiff, Nat.reduceBEq, Nat.reduceDiv, Nat.reduceMod, Int.reduceToNat, Int.reduceNeg, Int.reduceAdd, Int.reduceSub, Int.reduceMul, Int.reduceEq, Int.reduceNe, Int.reduceLT, Int.reduceLE, Int.reduceGT, Int.reduceGE, f0, f1, f2, f12, f13, f14]
      refine newI_intro fun id8 hid8 => ?_
      have hM8 : ∀ X : Blk, (M2.set id8 X) ids = some (.cells 58 [[.sl (C.map Cl.row), .mp idm, o]] 0) := fun X => by
        have := lt_of_bnd hid8 hM
        rw [Mem.set_ne _ _ _ _ (by omega)]
        exact hM
      simp -implicitDefEqProofs (maxSteps := 1000000) (disch := omega) only [↓xsP, ↓vc_seq, xsQ, xsT, xsR, xsD, ↓reduceIte, reduceCtorEq, eq_self, ne_eq, imp_self, forall_const, Nat.reduceEqDiff, Nat.reduceAdd, Nat.reduceSub, Nat.reduceMul, Nat.reduceLT, Nat.reduceLeDiff, Nat.reduceBEq, Nat.reduceDiv, Nat.reduceMod, Int.reduceToNat, Int.reduceNeg, Int.reduceAdd, Int.reduceSub, Int.reduceMul, Int.reduceEq, Int.reduceNe, Int.reduceLT, Int.reduceLE, Int.reduceGT, Int.reduceGE, f0, f1, f2, f12, f13, f14]
      refine xquiet (by kernel_rfl) (by kernel_rfl) (by kernel_rfl) ?_
      simp -implicitDefEqProofs (maxSteps := 1000000) (disch := omega) only [↓xsP, ↓vc_seq, xsQ, xsT, xsR, xsD, ↓reduceIte, reduceCtorEq, eq_self, ne_eq, imp_self, forall_const, Nat.reduceEqDiff, Nat.reduceAdd, Nat.reduceSub, Nat.reduceMul, Nat.reduceLT, Nat.reduceLeDiff, Nat.reduceBEq, Nat.reduceDiv, Nat.reduceMod, Int.reduceToNat, Int.reduceNeg, Int.reduceAdd, Int.reduceSub, Int.reduceMul, Int.reduceEq, Int.reduceNe, Int.reduceLT, Int.reduceLE, Int.reduceGT, Int.reduceGE, f0, f1, f2, f12, f13, f14, hM8]
      rw [bit_dec hd (show j ≤ 16 by omega)]
      have hgo : ∀ (q : ¬ (d.testBit j = false ∧ mustC (C.getD j default) ∧ befP (C.getD j default) (C.getD i default))), ∀ a, a < j + 1 → d.testBit a = false → mustC (C.getD a default) → ¬ befP (C.getD a default) (C.getD i default) := fun q a ha h1 h2 h3 => by
        by_cases e : a = j
        · rw [e] at h1 h2 h3
          exact q ⟨h1, h2, h3⟩
        · exact hno a (by omega) h1 h2 h3
      refine gI_t (fun hb => ?_) (fun hb => ?_)
      · have hb' : d.testBit j = false := by simpa using hb
        simp -implicitDefEqProofs (maxSteps := 1000000) (disch := omega) only [↓xsP, ↓vc_seq, xsQ, xsT, xsR, xsD, ↓reduceIte, reduceCtorEq, eq_self, ne_eq, imp_self, forall_const, Nat.reduceEqDiff, Nat.reduceAdd, Nat.reduceSub, Nat.reduceMul, Nat.reduceLT, Nat.reduceLeDiff, Nat.reduceBEq, Nat.reduceDiv, Nat.reduceMod, Int.reduceToNat, Int.reduceNeg, Int.reduceAdd, Int.reduceSub, Int.reduceMul, Int.reduceEq, Int.reduceNe, Int.reduceLT, Int.reduceLE, Int.reduceGT, Int.reduceGE, f0, f1, f2, f12, f13, f14, hM8, hb]
        refine dcallI_of (must_spec _ _) ?_
        simp -implicitDefEqProofs (maxSteps := 1000000) (disch := omega) only [↓xsP, ↓vc_seq, xsQ, xsT, xsR, xsD, ↓reduceIte, reduceCtorEq, eq_self, ne_eq, imp_self, forall_const, Nat.reduceEqDiff, Nat.reduceAdd, Nat.reduceSub, Nat.reduceMul, Nat.reduceLT, Nat.reduceLeDiff, Nat.reduceBEq, Nat.reduceDiv, Nat.reduceMod, Int.reduceToNat, Int.reduceNeg, Int.reduceAdd, Int.reduceSub, Int.reduceMul, Int.reduceEq, Int.reduceNe, Int.reduceLT, Int.reduceLE, Int.reduceGT, Int.reduceGE, f0, f1, f2, f12, f13, f14, hM8, hb]
        refine gI_t (fun hm => ?_) (fun hm => ?_)
        · simp -implicitDefEqProofs (maxSteps := 1000000) (disch := omega) only [↓xsP, ↓vc_seq, xsQ, xsT, xsR, xsD, ↓reduceIte, reduceCtorEq, eq_self, ne_eq, imp_self, forall_const, Nat.reduceEqDiff, Nat.reduceAdd, Nat.reduceSub, Nat.reduceMul, Nat.reduceLT, Nat.reduceLeDiff, Nat.reduceBEq, Nat.reduceDiv, Nat.reduceMod, Int.reduceToNat, Int.reduceNeg, Int.reduceAdd, Int.reduceSub, Int.reduceMul, Int.reduceEq, Int.reduceNe, Int.reduceLT, Int.reduceLE, Int.reduceGT, Int.reduceGE, f0, f1, f2, f12, f13, f14, hM8, hb, hm]
          refine dcallI_of (before_spec (C.getD j default) (C.getD i default) _) ?_
          simp -implicitDefEqProofs (maxSteps := 1000000) (disch := omega) only [↓xsP, ↓vc_seq, xsQ, xsT, xsR, xsD, ↓reduceIte, reduceCtorEq, eq_self, ne_eq, imp_self, forall_const, Nat.reduceEqDiff, Nat.reduceAdd, Nat.reduceSub, Nat.reduceMul, Nat.reduceLT, Nat.reduceLeDiff, Nat.reduceBEq, Nat.reduceDiv, Nat.reduceMod, Int.reduceToNat, Int.reduceNeg, Int.reduceAdd, Int.reduceSub, Int.reduceMul, Int.reduceEq, Int.reduceNe, Int.reduceLT, Int.reduceLE, Int.reduceGT, Int.reduceGE, f0, f1, f2, f12, f13, f14, hM8, hb, hm, bef_dec]
          refine condI_intro (fun hf => ?_) (fun hf => ?_)
          · simp -implicitDefEqProofs (maxSteps := 1000000) (disch := omega) only [↓xsP, ↓vc_seq, xsQ, xsT, xsR, xsD, ↓reduceIte, reduceCtorEq, eq_self, ne_eq, imp_self, forall_const, Nat.reduceEqDiff, Nat.reduceAdd, Nat.reduceSub, Nat.reduceMul, Nat.reduceLT, Nat.reduceLeDiff, Nat.reduceBEq, Nat.reduceDiv, Nat.reduceMod, Int.reduceToNat, Int.reduceNeg, Int.reduceAdd, Int.reduceSub, Int.reduceMul, Int.reduceEq, Int.reduceNe, Int.reduceLT, Int.reduceLE, Int.reduceGT, Int.reduceGE, f0, f1, f2, f12, f13, f14]
            refine fin_ok (le_new (Mem.le_refl _) hid8) ⟨?_, rfl⟩
            rw [bof_false (show ¬ freeP C d i from fun h => h.1 j hjl hb' (bof_iff.1 hm) (bof_iff.1 hf))]
          · simp -implicitDefEqProofs (maxSteps := 1000000) (disch := omega) only [↓xsP, ↓vc_seq, xsQ, xsT, xsR, xsD, ↓reduceIte, reduceCtorEq, eq_self, ne_eq, imp_self, forall_const, Nat.reduceEqDiff, Nat.reduceAdd, Nat.reduceSub, Nat.reduceMul, Nat.reduceLT, Nat.reduceLeDiff, Nat.reduceBEq, Nat.reduceDiv, Nat.reduceMod, Int.reduceToNat, Int.reduceNeg, Int.reduceAdd, Int.reduceSub, Int.reduceMul, Int.reduceEq, Int.reduceNe, Int.reduceLT, Int.reduceLE, Int.reduceGT, Int.reduceGE, f0, f1, f2, f12, f13, f14]
            exact ⟨C.length - (j + 1), M2, by omega, le_new (Mem.le_refl _) hid8, j + 1, by omega, rfl, by simp, rfl, hgo fun h => bof_not.1 hf h.2.2⟩
        · simp -implicitDefEqProofs (maxSteps := 1000000) (disch := omega) only [↓xsP, ↓vc_seq, xsQ, xsT, xsR, xsD, ↓reduceIte, reduceCtorEq, eq_self, ne_eq, imp_self, forall_const, Nat.reduceEqDiff, Nat.reduceAdd, Nat.reduceSub, Nat.reduceMul, Nat.reduceLT, Nat.reduceLeDiff, Nat.reduceBEq, Nat.reduceDiv, Nat.reduceMod, Int.reduceToNat, Int.reduceNeg, Int.reduceAdd, Int.reduceSub, Int.reduceMul, Int.reduceEq, Int.reduceNe, Int.reduceLT, Int.reduceLE, Int.reduceGT, Int.reduceGE, f0, f1, f2, f12, f13, f14, hM8, hb, hm]
          exact ⟨C.length - (j + 1), M2, by omega, le_new (Mem.le_refl _) hid8, j + 1, by omega, rfl, by simp, rfl, hgo fun h => bof_not.1 hm h.2.1⟩
      · have hb' : d.testBit j = true := by simpa using hb
        simp -implicitDefEqProofs (maxSteps := 1000000) (disch := omega) only [↓xsP, ↓vc_seq, xsQ, xsT, xsR, xsD, ↓reduceIte, reduceCtorEq, eq_self, ne_eq, imp_self, forall_const, Nat.reduceEqDiff, Nat.reduceAdd, Nat.reduceSub, Nat.reduceMul, Nat.reduceLT, Nat.reduceLeDiff, Nat.reduceBEq, Nat.reduceDiv, Nat.reduceMod, Int.reduceToNat, Int.reduceNeg, Int.reduceAdd, Int.reduceSub, Int.reduceMul, Int.reduceEq, Int.reduceNe, Int.reduceLT, Int.reduceLE, Int.reduceGT, Int.reduceGE, f0, f1, f2, f12, f13, f14, hM8, hb]
        exact ⟨C.length - (j + 1), M2, by omega, le_new (Mem.le_refl _) hid8, j + 1, by omega, rfl, by simp, rfl, hgo fun h => by rw [hb'] at h; cases h.1⟩
    · have hjl : j = C.length := by omega
      subst hjl
      simp -implicitDefEqProofs (maxSteps := 1000000) (disch := omega) only [↓xsP, ↓vc_seq, xsQ, xsT, xsR, xsD, ↓reduceIte, reduceCtorEq, eq_self, ne_eq, imp_self, forall_const, Nat.reduceEqDiff, Nat.reduceAdd, Nat.reduceSub, Nat.reduceMul, Nat.reduceLT, Nat.reduceLeDiff, Nat.reduceBEq, Nat.reduceDiv, Nat.reduceMod, Int.reduceToNat, Int.reduceNeg, Int.reduceAdd, Int.reduceSub, Int.reduceMul, Int.reduceEq, Int.reduceNe, Int.reduceLT, Int.reduceLE, Int.reduceGT, Int.reduceGE, f0, f1, f2, f12, f13, f14, hM]
      rw [bit_dec hd (show i ≤ 16 by omega)]
      refine gI_t (fun hb => ?_) (fun hb => ?_)
      · have hb' : d.testBit i = false := by simpa using hb
        simp -implicitDefEqProofs (maxSteps := 1000000) (disch := omega) only [↓xsP, ↓vc_seq, xsQ, xsT, xsR, xsD, ↓reduceIte, reduceCtorEq, eq_self, ne_eq, imp_self, forall_const, Nat.reduceEqDiff, Nat.reduceAdd, Nat.reduceSub, Nat.reduceMul, Nat.reduceLT, Nat.reduceLeDiff, Nat.reduceBEq, Nat.reduceDiv, Nat.reduceMod, Int.reduceToNat, Int.reduceNeg, Int.reduceAdd, Int.reduceSub, Int.reduceMul, Int.reduceEq, Int.reduceNe, Int.reduceLT, Int.reduceLE, Int.reduceGT, Int.reduceGE, f0, f1, f2, f12, f13, f14, hM, hb]
        refine call_of (never_spec _ _) ?_
        simp -implicitDefEqProofs (maxSteps := 1000000) (disch := omega) only [↓xsP, ↓vc_seq, xsQ, xsT, xsR, xsD, ↓reduceIte, reduceCtorEq, eq_self, ne_eq, imp_self, forall_const, Nat.reduceEqDiff, Nat.reduceAdd, Nat.reduceSub, Nat.reduceMul, Nat.reduceLT, Nat.reduceLeDiff, Nat.reduceBEq, Nat.reduceDiv, Nat.reduceMod, Int.reduceToNat, Int.reduceNeg, Int.reduceAdd, Int.reduceSub, Int.reduceMul, Int.reduceEq, Int.reduceNe, Int.reduceLT, Int.reduceLE, Int.reduceGT, Int.reduceGE, f0, f1, f2, f12, f13, f14, hM, hb]
        refine fin_ok (Mem.le_refl _) ⟨?_, rfl⟩
        cases hn : bof (neverC (C.getD i default)) with
        | true => rw [bof_false (show ¬ freeP C d i from fun h => h.2.2 (bof_iff.1 hn))]; rfl
        | false => rw [bof_true (show freeP C d i from ⟨hno, hb', bof_not.1 hn⟩)]; rfl
      · have hb' : d.testBit i = true := by simpa using hb
        simp -implicitDefEqProofs (maxSteps := 1000000) (disch := omega) only [↓xsP, ↓vc_seq, xsQ, xsT, xsR, xsD, ↓reduceIte, reduceCtorEq, eq_self, ne_eq, imp_self, forall_const, Nat.reduceEqDiff, Nat.reduceAdd, Nat.reduceSub, Nat.reduceMul, Nat.reduceLT, Nat.reduceLeDiff, Nat.reduceBEq, Nat.reduceDiv, Nat.reduceMod, Int.reduceToNat, Int.reduceNeg, Int.reduceAdd, Int.reduceSub, Int.reduceMul, Int.reduceEq, Int.reduceNe, Int.reduceLT, Int.reduceLE, Int.reduceGT, Int.reduceGE, f0, f1, f2, f12, f13, f14, hM, hb]
        refine fin_ok (Mem.le_refl _) ⟨?_, rfl⟩
        rw [bof_false (show ¬ freeP C d i from fun h => by have := h.2.1; rw [hb'] at this; cases this)]
end Go.X
set_option linter.unusedVariables false
set_option linter.unusedSimpArgs false
set_option maxHeartbeats 20000000
set_option maxRecDepth 100000
namespace Go.X
open Go.Proofs.Tryd (prog)

/-- How a search goes on to its end. -/
inductive Comp (C : List Cl) : Nat → List Pr → List Nat → Prop
  | nil {d : Nat} {s : List Pr} (h : ¬ dueP C d) : Comp C d s []
  | cons {d i : Nat} {s : List Pr} {l : List Nat} (hi : i < C.length) (hf : freeP C d i) (ha : 0 ≤ (C.getD i default).fin → doA s (C.getD i default).op = (C.getD i default).ans) (h : Comp C (d ||| 2 ^ i) (doL s (C.getD i default).op) l) : Comp C d s (i :: l)
def Dead (C : List Cl) (d : Nat) (s : List Pr) : Prop := ¬ ∃ l, Comp C d s l
def OpsOk (C : List Cl) : Prop := ∀ c ∈ C, IntOk' c.op.key ∧ IntOk' c.op.val
theorem withL_mem {l : List Pr} {p x : Pr} (h : x ∈ withL l p) : x ∈ l ∨ x = p := by
  rw [withL, List.mem_append, List.mem_append, List.mem_singleton] at h
  rcases h with (h | h) | h
  · exact .inl (List.mem_of_mem_take h)
  · exact .inr h
  · left
    unfold withRest at h
    split at h
    · cases h
    · rename_i y r hd
      have hm : ∀ z ∈ y :: r, z ∈ l := fun z hz => List.mem_of_mem_drop (hd ▸ hz)
      split at h
      · exact hm x (by simp [h])
      · exact hm x h
theorem doL_mem {l : List Pr} {op : Opn} {x : Pr} (h : x ∈ doL l op) : x ∈ l ∨ x = ⟨op.key, op.val⟩ := by
  rw [doL] at h
  split at h
  · exact .inl h
  · split at h
    · rw [oneL] at h
      split at h
      · exact withL_mem h
      · split at h
        · rcases List.mem_append.1 h with h | h
          · exact .inl (List.mem_of_mem_take h)
          · exact .inl (List.mem_of_mem_drop h)
        · exact .inl h
    · exact .inl h
theorem AllOk.doL {s : List Pr} {op : Opn} (h : AllOk s) (ho : IntOk' op.key ∧ IntOk' op.val) : AllOk (doL s op) := fun x hx => by
  rcases doL_mem hx with hx | rfl
  · exact h x hx
  · exact ho
theorem or_gt {d i : Nat} (h : d.testBit i = false) : d < d ||| 2 ^ i := by
  rcases Nat.lt_or_ge d (d ||| 2 ^ i) with h' | h'
  · exact h'
  · exfalso
    have h2 : d = d ||| 2 ^ i := Nat.le_antisymm Nat.left_le_or h'
    have := congrArg (fun x => x.testBit i) h2
    simp [Nat.testBit_or, h] at this
theorem or_lt {d i : Nat} (hd : d < 65536) (hi : i < 16) : d ||| 2 ^ i < 65536 := by
  have : d ||| 2 ^ i < 2 ^ 16 := Nat.or_lt_two_pow (by omega) (Nat.pow_lt_pow_right (by decide) hi)
  omega

structure SIn (B M : Mem) (ids idm : Nat) (o : Lf) (C : List Cl) (L : List Int) (ks : List (List UInt8)) : Prop where
  le : B.le M
  n1 : B ids = none
  n2 : B idm = none
  ne : ids ≠ idm
  own : M ids = some (.cells 58 [sRow C idm o] 0)
  map : M idm = some (.map (ks.map sent))
  ord : (L = [] ∧ o = .nils) ∨ ∃ idO rows, B idO = none ∧ o = .ms idO 0 L.length ∧ M idO = some (.cells 3 rows 0) ∧ L.length ≤ rows.length ∧ rows.take L.length = L.map irow
theorem SIn.grow {B M N : Mem} {ids idm : Nat} {o : Lf} {C : List Cl} {L : List Int} {ks : List (List UInt8)} (h : SIn B M ids idm o C L ks) (hle : M.le N) : SIn B N ids idm o C L ks := by
  refine ⟨fun k bk hk => hle _ _ (h.le _ _ hk), h.n1, h.n2, h.ne, hle _ _ h.own, hle _ _ h.map, ?_⟩
  rcases h.ord with h | ⟨idO, rows, a1, a2, a3, a4⟩
  · exact .inl h
  · exact .inr ⟨idO, rows, a1, a2, hle _ _ a3, a4⟩
theorem SIn.base {A B M : Mem} {ids idm : Nat} {o : Lf} {C : List Cl} {L : List Int} {ks : List (List UInt8)} (h : SIn B M ids idm o C L ks) (hle : A.le B) : SIn A M ids idm o C L ks := by
  have hn : ∀ k, B k = none → A k = none := fun k hk => by
    cases ha : A k with
    | none => rfl
    | some b => rw [hle _ _ ha] at hk; cases hk
  refine ⟨fun k bk hk => h.le _ _ (hle _ _ hk), hn _ h.n1, hn _ h.n2, h.ne, h.own, h.map, ?_⟩
  rcases h.ord with h | ⟨idO, rows, a1, a2, a3, a4⟩
  · exact .inl h
  · exact .inr ⟨idO, rows, hn _ a1, a2, a3, a4⟩
theorem SIn.with {B M : Mem} {ids idm : Nat} {o : Lf} {C : List Cl} {L : List Int} {ks : List (List UInt8)} (h : SIn B M ids idm o C L ks) {idn : Nat} (hn : M idn = none) (X : Blk) : SIn (B.set idn X) (M.set idn X) ids idm o C L ks := by
  have e : ∀ k bk, M k = some bk → idn ≠ k := fun k bk hk e => by rw [e, hk] at hn; cases hn
  have e2 : ∀ k bk, M k = some bk → ∀ (A : Mem), (A.set idn X) k = A k := fun k bk hk A => Mem.set_ne _ _ _ _ (e k bk hk)
  refine ⟨fun k bk hk => ?_, by rw [e2 _ _ h.own]; exact h.n1, by rw [e2 _ _ h.map]; exact h.n2, h.ne, by rw [e2 _ _ h.own]; exact h.own, by rw [e2 _ _ h.map]; exact h.map, ?_⟩
  · rw [Mem.set_app] at hk ⊢
    by_cases q : idn = k
    · rw [if_pos q] at hk ⊢
      exact hk
    · rw [if_neg q] at hk ⊢
      exact h.le _ _ hk
  · rcases h.ord with h | ⟨idO, rows, a1, a2, a3, a4⟩
    · exact .inl h
    · exact .inr ⟨idO, rows, by rw [e2 _ _ a3]; exact a1, a2, by rw [e2 _ _ a3]; exact a3, a4⟩
theorem srcRows_ms' {M : Mem} {t e : TypeId} {te : TI} {id : Nat} {r : List Lf} (hM : M id = some (.cells e [r] 0)) (hr : r.length = te.size) : srcRows Go.Proofs.Tryd.prog M t t e te (.l (.ms id 0 1)) = some [r] := by
  unfold srcRows
  rw [if_pos rfl]
  simp only [hM]
  rw [if_pos ⟨trivial, by simp⟩]
  rfl
theorem app_ord {B N : Mem} {ids idm : Nat} {o : Lf} {C : List Cl} {L : List Int} {ks : List (List UInt8)} (I : SIn B N ids idm o C L ks) {pb : Nat} (hb : ∀ j, pb ≤ j → N j = none) (e : Int) (hl : L.length ≤ 100000) {K : AV → Mem → Prop}
    (hk : ∀ (idO : Nat) (N' : Mem) (rows : List (List Lf)), B.le N' → N' ids = some (.cells 58 [sRow C idm o] 0) → N' idm = some (.map (ks.map sent)) → B idO = none → N' idO = some (.cells 3 rows 0) → L.length + 1 ≤ rows.length → rows.take (L.length + 1) = (L ++ [e]).map irow → idO ≠ ids → K (.l (.ms idO 0 (L.length + 1))) N') :
    @appI Go.Proofs.Tryd.prog (N.set pb (.cells 3 [irow e] 0)) 40 40 (.l o) (.l (.ms pb 0 1)) ⟨K⟩ := by
  have keep : ∀ k bk, N k = some bk → (N.set pb (.cells 3 [irow e] 0)) k = some bk := fun k bk h => by
    have := lt_of_bnd hb h
    rw [Mem.set_ne _ _ _ _ (by omega)]
    exact h
  have hs : ∀ te : TI, te.size = 1 → srcRows Go.Proofs.Tryd.prog (N.set pb (.cells 3 [irow e] 0)) 40 40 3 te (.l (.ms pb 0 1)) = some [irow e] := fun te h => srcRows_ms' (Mem.set_eq _ _ _) h.symm
  rcases I.ord with ⟨h1, rfl⟩ | ⟨idO, rows, a1, rfl, a3, a4, a5⟩
  · refine app_nils _ _ _ _ 3 _ _ ti_40 rfl ti_3 (by kernel_rfl) (by decide) _ [irow e] (hs _ rfl) (by simp) (by simp) (by simp) (fun _ idA hidA => ?_)
    have q : ∀ k bk, N k = some bk → ((N.set pb (.cells 3 [irow e] 0)).set idA (.cells 3 [irow e] 0)) k = some bk := fun k bk h => le_new (Mem.le_refl _) hidA _ _ (keep _ _ h)
    have hn : idA ≠ ids := by have := lt_of_bnd hidA (keep _ _ I.own); omega
    subst h1
    refine hk idA _ [irow e] (fun k bk h => q _ _ (I.le _ _ h)) (q _ _ I.own) (q _ _ I.map) ?_ (Mem.set_eq _ _ _) (by simp) (by simp) hn
    cases hB : B idA with
    | none => rfl
    | some bk => have := lt_of_bnd hidA (keep _ _ (I.le _ _ hB)); omega
  · refine app_ms _ _ _ _ 3 _ _ ti_40 rfl ti_3 (by kernel_rfl) (by decide) idO L.length _ (rows := rows) (keep := 0) [irow e] (keep _ _ a3) (hs _ rfl) a4 (Nat.zero_le _) ?_ ?_ (fun idA hidA => ?_)
    · exact Nat.le_trans (Nat.mul_le_mul_right _ (show L.length + 1 ≤ 100001 by omega)) (by decide)
    · exact Nat.le_trans (show L.length + 1 ≤ 100001 by omega) (by decide)
    have q : ∀ k bk, k ≠ idO → N k = some bk → ((((N.set pb (.cells 3 [irow e] 0)).del idO).set idA (.cells 3 (rows.take L.length ++ [irow e]) 0)) k) = some bk := fun k bk hne h => by
      have := lt_of_bnd hidA (keep _ _ h)
      rw [Mem.set_ne _ _ _ _ (by omega), Mem.del_ne _ _ _ (fun e => hne e.symm)]
      exact keep _ _ h
    have hn : idA ≠ ids := by have := lt_of_bnd hidA (keep _ _ I.own); omega
    refine hk idA _ (rows.take L.length ++ [irow e]) (fun k bk h => q _ _ (fun e => by rw [e, a1] at h; cases h) (I.le _ _ h)) (q _ _ (fun e => by rw [← e, I.own] at a3; cases a3) I.own) (q _ _ (fun e => by rw [← e, I.map] at a3; cases a3) I.map) ?_ (Mem.set_eq _ _ _) (by simp; omega) ?_ hn
    · cases hB : B idA with
      | none => rfl
      | some bk => have := lt_of_bnd hidA (keep _ _ (I.le _ _ hB)); omega
    · rw [List.take_of_length_le (by simp; omega), a5, List.map_append]
      rfl
theorem or_pow (d i : Nat) (hd : d < 65536) (hi : i < 16) : bitsA .or .i64 (d : Int) (IntKind.i64.wrap (1 * 2 ^ min i IntKind.i64.bits)) = ((d ||| 2 ^ i : Nat) : Int) := by
  have e1 : IntKind.i64.wrap (1 * 2 ^ min i IntKind.i64.bits) = ((2 ^ i : Nat) : Int) := by
    rw [show min i IntKind.i64.bits = i from Nat.min_eq_left (Nat.le_trans (Nat.le_of_lt hi) (by decide)), Int.one_mul]
    have : 2 ^ i < 2 ^ 16 := Nat.pow_lt_pow_right (by decide) hi
    have e : ((2 : Int) ^ i) = ((2 ^ i : Nat) : Int) := by push_cast; rfl
    rw [e, IntKind.wrap_i64]
    generalize 2 ^ i = z at this ⊢
    omega
  rw [e1, bitsA]
  have h2 : 2 ^ i < 65536 := Nat.lt_of_lt_of_le (Nat.pow_lt_pow_right (by decide) hi) (by decide)
  have h3 : (BitVec.ofInt IntKind.i64.bits (d : Int) ||| BitVec.ofInt IntKind.i64.bits ((2 ^ i : Nat) : Int)).toNat = d ||| 2 ^ i := by
    have g : ∀ n : Nat, n < 65536 → (BitVec.ofInt IntKind.i64.bits (n : Int)).toNat = n := fun n hn => by
      rw [BitVec.toNat_ofInt]
      show ((n : Int) % ((2 ^ 64 : Nat) : Int)).toNat = n
      omega
    rw [BitVec.toNat_or, g _ hd, g _ h2]
  rw [h3, IntKind.wrap_i64]
  have := or_lt hd hi
  omega
def DeadAll (C : List Cl) (ks : List (List UInt8)) : Prop := ∀ k ∈ ks, ∃ (d : Nat) (s : List Pr), k = stTxt d s ∧ Dead C d s
theorem sgoes_spec (C : List Cl) (hC : C.length ≤ 16) (hCo : OpsOk C) : ∀ (n d : Nat), 65536 - d ≤ n → d < 65536 → ∀ (s : List Pr), AllOk s → s.length ≤ 1000 + d → ∀ (B M : Mem) (ids idm idp : Nat) (o : Lf) (L : List Int) (ks : List (List UInt8)), L.length ≤ d → DeadAll C ks → SIn B M ids idm o C L ks → B idp = some (mapB s) →
    XCalls Go.Proofs.Tryd.prog 22 [.l (.ptr ids 0 0), .l (.int .i64 d), .l (.ptr idp 0 0)] M fun r M' => ∃ (b : Bool) (o' : Lf) (L' : List Int) (ks' : List (List UInt8)), r = .l (.bool b) ∧ SIn B M' ids idm o' C L' ks' ∧ DeadAll C ks' ∧ (b = true → ∃ l, Comp C d s l ∧ L' = L ++ l.map fun i : Nat => (i : Int)) ∧ (b = false → L' = L ∧ Dead C d s) := by
  intro n
  induction n with
  | zero => intro d h1 h2; omega
  | succ n ih =>
  intro d hn hd s hs hsl B M ids idm idp o L ks hLd hks I hp
  have hown := I.own
  rw [sRow] at hown
  have hpM := I.le _ _ hp
  refine xcalls_intro (rs := [.tmp 6]) Go.Proofs.Tryd.func22 rfl (by kernel_rfl) rfl rfl (by kernel_rfl) (by simp) ?_
  simp -implicitDefEqProofs (maxSteps := 1000000) (disch := omega) only [↓xsP, ↓vc_seq, xsQ, xsT, xsR, xsD, ↓reduceIte, reduceCtorEq, eq_self, ne_eq, imp_self, forall_const, Nat.reduceEqDiff, Nat.reduceAdd, Nat.reduceSub, Nat.reduceMul, Nat.reduceLT, Nat.reduceLeDiff, Nat.reduceBEq, Nat.reduceDiv, Nat.reduceMod, Int.reduceToNat, Int.reduceNeg, Int.reduceAdd, Int.reduceSub, Int.reduceMul, Int.reduceEq, Int.reduceNe, Int.reduceLT, Int.reduceLE, Int.reduceGT, Int.reduceGE]
  refine call_of (due_spec C hC d hd ids idm o _ I.own) ?_
  simp -implicitDefEqProofs (maxSteps := 1000000) (disch := omega) only [↓xsP, ↓vc_seq, xsQ, xsT, xsR, xsD, ↓reduceIte, reduceCtorEq, eq_self, ne_eq, imp_self, forall_const, Nat.reduceEqDiff, Nat.reduceAdd, Nat.reduceSub, Nat.reduceMul, Nat.reduceLT, Nat.reduceLeDiff, Nat.reduceBEq, Nat.reduceDiv, Nat.reduceMod, Int.reduceToNat, Int.reduceNeg, Int.reduceAdd, Int.reduceSub, Int.reduceMul, Int.reduceEq, Int.reduceNe, Int.reduceLT, Int.reduceLE, Int.reduceGT, Int.reduceGE]
  refine condI_intro (fun hb => ?_) (fun hb => ?_)
  · simp -implicitDefEqProofs (maxSteps := 1000000) (disch := omega) only [↓xsP, ↓vc_seq, xsQ, xsT, xsR, xsD, ↓reduceIte, reduceCtorEq, eq_self, ne_eq, imp_self, forall_const, Nat.reduceEqDiff, Nat.reduceAdd, Nat.reduceSub, Nat.reduceMul, Nat.reduceLT, Nat.reduceLeDiff, Nat.reduceBEq, Nat.reduceDiv, Nat.reduceMod, Int.reduceToNat, Int.reduceNeg, Int.reduceAdd, Int.reduceSub, Int.reduceMul, Int.reduceEq, Int.reduceNe, Int.reduceLT, Int.reduceLE, Int.reduceGT, Int.reduceGE]
    exact fin_ok (Mem.le_refl _) ⟨true, o, L, ks, rfl, I, hks, fun _ => ⟨[], .nil (bof_not.1 (by simpa using hb)), by simp⟩, fun h => by cases h⟩
  have hdue : dueP C d := bof_iff.1 (by simpa using hb)
  simp -implicitDefEqProofs (maxSteps := 1000000) (disch := omega) only [↓xsP, ↓vc_seq, xsQ, xsT, xsR, xsD, ↓reduceIte, reduceCtorEq, eq_self, ne_eq, imp_self, forall_const, Nat.reduceEqDiff, Nat.reduceAdd, Nat.reduceSub, Nat.reduceMul, Nat.reduceLT, Nat.reduceLeDiff, Nat.reduceBEq, Nat.reduceDiv, Nat.reduceMod, Int.reduceToNat, Int.reduceNeg, Int.reduceAdd, Int.reduceSub, Int.reduceMul, Int.reduceEq, Int.reduceNe, Int.reduceLT, Int.reduceLE, Int.reduceGT, Int.reduceGE]
  refine call_of (state_spec d ⟨by omega, by omega⟩ s hs (by omega) idp _ hpM) ?_
  have hlk := lookup_txt (P := Go.Proofs.Tryd.prog) (M := M) (t := 56) ⟨⟨_, _, _, _, _, ti_56, rfl, ti_9, rfl, ti_3, rfl⟩⟩ I.map (stTxt d s)
  simp -implicitDefEqProofs (maxSteps := 1000000) (disch := omega) only [↓xsP, ↓vc_seq, xsQ, xsT, xsR, xsD, ↓reduceIte, reduceCtorEq, eq_self, ne_eq, imp_self, forall_const, Nat.reduceEqDiff, Nat.reduceAdd, Nat.reduceSub, Nat.reduceMul, Nat.reduceLT, Nat.reduceLeDiff, Nat.reduceBEq, Nat.reduceDiv, Nat.reduceMod, Int.reduceToNat, Int.reduceNeg, Int.reduceAdd, Int.reduceSub, Int.reduceMul, Int.reduceEq, Int.reduceNe, Int.reduceLT, Int.reduceLE, Int.reduceGT, Int.reduceGE, hown, hlk]
  refine condI_prop (fun hmet => ?_) (fun hmet => ?_)
  · simp -implicitDefEqProofs (maxSteps := 1000000) (disch := omega) only [↓xsP, ↓vc_seq, xsQ, xsT, xsR, xsD, ↓reduceIte, reduceCtorEq, eq_self, ne_eq, imp_self, forall_const, Nat.reduceEqDiff, Nat.reduceAdd, Nat.reduceSub, Nat.reduceMul, Nat.reduceLT, Nat.reduceLeDiff, Nat.reduceBEq, Nat.reduceDiv, Nat.reduceMod, Int.reduceToNat, Int.reduceNeg, Int.reduceAdd, Int.reduceSub, Int.reduceMul, Int.reduceEq, Int.reduceNe, Int.reduceLT, Int.reduceLE, Int.reduceGT, Int.reduceGE]
    have hm : stTxt d s ∈ ks := by
      by_cases h : stTxt d s ∈ ks
      · exact h
      · exact absurd (if_neg h) hmet
    refine fin_ok (Mem.le_refl _) ⟨false, o, L, ks, rfl, I, hks, (fun h => absurd h (by decide)), fun _ => ⟨rfl, ?_⟩⟩
    obtain ⟨d', s', e, hdd⟩ := hks _ hm
    obtain ⟨e1, e2⟩ := stTxt_inj e
    rw [e2, show d = d' by omega]
    exact hdd
  clear hmet hlk
  simp -implicitDefEqProofs (maxSteps := 1000000) (disch := omega) only [↓xsP, ↓vc_seq, xsQ, xsT, xsR, xsD, ↓reduceIte, reduceCtorEq, eq_self, ne_eq, imp_self, forall_const, Nat.reduceEqDiff, Nat.reduceAdd, Nat.reduceSub, Nat.reduceMul, Nat.reduceLT, Nat.reduceLeDiff, Nat.reduceBEq, Nat.reduceDiv, Nat.reduceMod, Int.reduceToNat, Int.reduceNeg, Int.reduceAdd, Int.reduceSub, Int.reduceMul, Int.reduceEq, Int.reduceNe, Int.reduceLT, Int.reduceLE, Int.reduceGT, Int.reduceGE, hown]
  refine loopI_of (xloop (by kernel_rfl) (fun k fr M2 => ∃ (i : Nat) (o : Lf) (ks : List (List UInt8)), i ≤ C.length ∧ k = C.length - i ∧ fr 0 = .l (.ptr ids 0 0) ∧ fr 1 = .l (.int .i64 d) ∧ fr 2 = .l (.ptr idp 0 0) ∧ fr 7 = .l (txt (stTxt d s)) ∧ fr 29 = .l (.sl (C.map Cl.row)) ∧ fr 30 = .l (.int .i64 C.length) ∧ fr 31 = .l (.int .i64 i) ∧ SIn B M2 ids idm o C L ks ∧ DeadAll C ks ∧ ∀ j, j < i → freeP C d j → (0 ≤ (C.getD j default).fin → doA s (C.getD j default).op = (C.getD j default).ans) → Dead C (d ||| 2 ^ j) (doL s (C.getD j default).op)) C.length ?_ ?_)
  · exact ⟨0, o, ks, Nat.zero_le _, rfl, by simp -implicitDefEqProofs (maxSteps := 1000000) (disch := omega) only [↓xsP, ↓vc_seq, xsQ, xsT, xsR, xsD, ↓reduceIte, reduceCtorEq, eq_self, ne_eq, imp_self, forall_const, Nat.reduceEqDiff, Nat.reduceAdd, Nat.reduceSub, Nat.reduceMul, Nat.reduceLT, Nat.reduceLeDiff, Nat.reduceBEq, Nat.reduceDiv, Nat.reduceMod, Int.reduceToNat, Int.reduceNeg, Int.reduceAdd, Int.reduceSub, Int.reduceMul, Int.reduceEq, Int.reduceNe, Int.reduceLT, Int.reduceLE, Int.reduceGT, Int.reduceGE], by simp -implicitDefEqProofs (maxSteps := 1000000) (disch := omega) only [↓xsP, ↓vc_seq, xsQ, xsT, xsR, xsD, ↓reduceIte, reduceCtorEq, eq_self, ne_eq, imp_self, forall_const, Nat.reduceEqDiff, Nat.reduceAdd, Nat.reduceSub, Nat.reduceMul, Nat.reduceLT, Nat.reduceLeDiff, Nat.reduceBEq, Nat.reduceDiv, Nat.reduceMod, Int.reduceToNat, Int.reduceNeg, Int.reduceAdd, Int.reduceSub, Int.reduceMul, Int.reduceEq, Int.reduceNe, Int.reduceLT, Int.reduceLE, Int.reduceGT, Int.reduceGE], by simp -implicitDefEqProofs (maxSteps := 1000000) (disch := omega) only [↓xsP, ↓vc_seq, xsQ, xsT, xsR, xsD, ↓reduceIte, reduceCtorEq, eq_self, ne_eq, imp_self, forall_const, Nat.reduceEqDiff, Nat.reduceAdd, Nat.reduceSub, Nat.reduceMul, Nat.reduceLT, Nat.reduceLeDiff, Nat.reduceBEq, Nat.reduceDiv, Nat.reduceMod, Int.reduceToNat, Int.reduceNeg, Int.reduceAdd, Int.reduceSub, Int.reduceMul, Int.reduceEq, Int.reduceNe, Int.reduceLT, Int.reduceLE, Int.reduceGT, Int.reduceGE], by simp -implicitDefEqProofs (maxSteps := 1000000) (disch := omega) only [↓xsP, ↓vc_seq, xsQ, xsT, xsR, xsD, ↓reduceIte, reduceCtorEq, eq_self, ne_eq, imp_self, forall_const, Nat.reduceEqDiff, Nat.reduceAdd, Nat.reduceSub, Nat.reduceMul, Nat.reduceLT, Nat.reduceLeDiff, Nat.reduceBEq, Nat.reduceDiv, Nat.reduceMod, Int.reduceToNat, Int.reduceNeg, Int.reduceAdd, Int.reduceSub, Int.reduceMul, Int.reduceEq, Int.reduceNe, Int.reduceLT, Int.reduceLE, Int.reduceGT, Int.reduceGE], by simp -implicitDefEqProofs (maxSteps := 1000000) (disch := omega) only [↓xsP, ↓vc_seq, xsQ, xsT, xsR, xsD, ↓reduceIte, reduceCtorEq, eq_self, ne_eq, imp_self, forall_const, Nat.reduceEqDiff, Nat.reduceAdd, Nat.reduceSub, Nat.reduceMul, Nat.reduceLT, Nat.reduceLeDiff, Nat.reduceBEq, Nat.reduceDiv, Nat.reduceMod, Int.reduceToNat, Int.reduceNeg, Int.reduceAdd, Int.reduceSub, Int.reduceMul, Int.reduceEq, Int.reduceNe, Int.reduceLT, Int.reduceLE, Int.reduceGT, Int.reduceGE], by simp -implicitDefEqProofs (maxSteps := 1000000) (disch := omega) only [↓xsP, ↓vc_seq, xsQ, xsT, xsR, xsD, ↓reduceIte, reduceCtorEq, eq_self, ne_eq, imp_self, forall_const, Nat.reduceEqDiff, Nat.reduceAdd, Nat.reduceSub, Nat.reduceMul, Nat.reduceLT, Nat.reduceLeDiff, Nat.reduceBEq, Nat.reduceDiv, Nat.reduceMod, Int.reduceToNat, Int.reduceNeg, Int.reduceAdd, Int.reduceSub, Int.reduceMul, Int.reduceEq, Int.reduceNe, Int.reduceLT, Int.reduceLE, Int.reduceGT, Int.reduceGE], by simp -implicitDefEqProofs (maxSteps := 1000000) (disch := omega) only [↓xsP, ↓vc_seq, xsQ, xsT, xsR, xsD, ↓reduceIte, reduceCtorEq, eq_self, ne_eq, imp_self, forall_const, Nat.reduceEqDiff, Nat.reduceAdd, Nat.reduceSub, Nat.reduceMul, Nat.reduceLT, Nat.reduceLeDiff, Nat.reduceBEq, Nat.reduceDiv, Nat.reduceMod, Int.reduceToNat, Int.reduceNeg, Int.reduceAdd, Int.reduceSub, Int.reduceMul, Int.reduceEq, Int.reduceNe, Int.reduceLT, Int.reduceLE, Int.reduceGT, Int.reduceGE, Int.cast_ofNat_Int], I, hks, fun j hj => by omega⟩
  clear hown hpM I hks
  rintro k fr M2 ⟨i, o, ks, hi, rfl, f0, f1, f2, f7, f29, f30, f31, I, hks, hno⟩
  have hown := I.own
  rw [sRow] at hown
  have hpM := I.le _ _ hp
  simp -implicitDefEqProofs (maxSteps := 1000000) (disch := omega) only [↓xsP, ↓vc_seq, xsQ, xsT, xsR, xsD, ↓reduceIte, reduceCtorEq, eq_self, ne_eq, imp_self, forall_const, Nat.reduceEqDiff, Nat.reduceAdd, Nat.reduceSub, Nat.reduceMul, Nat.reduceLT, Nat.reduceLeDiff, Nat.reduceBEq, Nat.reduceDiv, Nat.reduceMod, Int.reduceToNat, Int.reduceNeg, Int.reduceAdd, Int.reduceSub, Int.reduceMul, Int.reduceEq, Int.reduceNe, Int.reduceLT, Int.reduceLE, Int.reduceGT, Int.reduceGE, f0, f1, f2, f7, f29, f30, f31]
  refine condI_prop (fun hlt => ?_) (fun hlt => ?_)
  · have hil : i < C.length := by omega
    obtain ⟨c, hc⟩ : ∃ c, C.getD i default = c := ⟨_, rfl⟩
    simp -implicitDefEqProofs (maxSteps := 1000000) (disch := omega) only [↓xsP, ↓vc_seq, xsQ, xsT, xsR, xsD, ↓reduceIte, reduceCtorEq, eq_self, ne_eq, imp_self, forall_const, Nat.reduceEqDiff, Nat.reduceAdd, Nat.reduceSub, Nat.reduceMul, Nat.reduceLT, Nat.reduceLeDiff, Nat.reduceBEq, Nat.reduceDiv, Nat.reduceMod, Int.reduceToNat, Int.reduceNeg, Int.reduceAdd, Int.reduceSub, Int.reduceMul, Int.reduceEq, Int.reduceNe, Int.reduceLT, Int.reduceLE, Int.reduceGT, Int.reduceGE, f0, f1, f2, f7, f29, f30, f31, hc]
    refine newI_intro fun id9 hid9 => ?_
    have hl9 : ∀ X : Blk, M2.le (M2.set id9 X) := fun X => le_new (Mem.le_refl _) hid9
    simp -implicitDefEqProofs (maxSteps := 1000000) (disch := omega) only [↓xsP, ↓vc_seq, xsQ, xsT, xsR, xsD, ↓reduceIte, reduceCtorEq, eq_self, ne_eq, imp_self, forall_const, Nat.reduceEqDiff, Nat.reduceAdd, Nat.reduceSub, Nat.reduceMul, Nat.reduceLT, Nat.reduceLeDiff, Nat.reduceBEq, Nat.reduceDiv, Nat.reduceMod, Int.reduceToNat, Int.reduceNeg, Int.reduceAdd, Int.reduceSub, Int.reduceMul, Int.reduceEq, Int.reduceNe, Int.reduceLT, Int.reduceLE, Int.reduceGT, Int.reduceGE, f0, f1, f2, f7, f29, f30, f31, hc]
    refine call_of (free_spec C hC d hd i hil ids idm o _ (hl9 _ _ _ I.own)) ?_
    simp -implicitDefEqProofs (maxSteps := 1000000) (disch := omega) only [↓xsP, ↓vc_seq, xsQ, xsT, xsR, xsD, ↓reduceIte, reduceCtorEq, eq_self, ne_eq, imp_self, forall_const, Nat.reduceEqDiff, Nat.reduceAdd, Nat.reduceSub, Nat.reduceMul, Nat.reduceLT, Nat.reduceLeDiff, Nat.reduceBEq, Nat.reduceDiv, Nat.reduceMod, Int.reduceToNat, Int.reduceNeg, Int.reduceAdd, Int.reduceSub, Int.reduceMul, Int.reduceEq, Int.reduceNe, Int.reduceLT, Int.reduceLE, Int.reduceGT, Int.reduceGE, f0, f1, f2, f7, f29, f30, f31, hc]
    have hskip : (freeP C d i → ¬ (0 ≤ c.fin → doA s c.op = c.ans)) → ∀ j, j < i + 1 → freeP C d j → (0 ≤ (C.getD j default).fin → doA s (C.getD j default).op = (C.getD j default).ans) → Dead C (d ||| 2 ^ j) (doL s (C.getD j default).op) := fun q j hj h1 h2 => by
      by_cases e : j = i
      · rw [e, hc] at h2
        exact absurd h2 (q (e ▸ h1))
      · exact hno j (by omega) h1 h2
    refine condI_intro (fun hfr => ?_) (fun hfr => ?_)
    · simp -implicitDefEqProofs (maxSteps := 1000000) (disch := omega) only [↓xsP, ↓vc_seq, xsQ, xsT, xsR, xsD, ↓reduceIte, reduceCtorEq, eq_self, ne_eq, imp_self, forall_const, Nat.reduceEqDiff, Nat.reduceAdd, Nat.reduceSub, Nat.reduceMul, Nat.reduceLT, Nat.reduceLeDiff, Nat.reduceBEq, Nat.reduceDiv, Nat.reduceMod, Int.reduceToNat, Int.reduceNeg, Int.reduceAdd, Int.reduceSub, Int.reduceMul, Int.reduceEq, Int.reduceNe, Int.reduceLT, Int.reduceLE, Int.reduceGT, Int.reduceGE, f0, f1, f2, f7, f29, f30, f31, hc]
      have hfr' : ¬ freeP C d i := bof_not.1 (by simpa using hfr)
      exact ⟨C.length - (i + 1), M2, by omega, hl9 _, i + 1, o, ks, by omega, rfl, by simp, I, hks, hskip fun h => absurd h hfr'⟩
    · have hfr' : freeP C d i := bof_iff.1 (by simpa using hfr)
      have hib : d.testBit i = false := hfr'.2.1
      have hdi := or_gt hib
      have hdl := or_lt hd (show i < 16 by omega)
      simp -implicitDefEqProofs (maxSteps := 1000000) (disch := omega) only [↓xsP, ↓vc_seq, xsQ, xsT, xsR, xsD, ↓reduceIte, reduceCtorEq, eq_self, ne_eq, imp_self, forall_const, Nat.reduceEqDiff, Nat.reduceAdd, Nat.reduceSub, Nat.reduceMul, Nat.reduceLT, Nat.reduceLeDiff, Nat.reduceBEq, Nat.reduceDiv, Nat.reduceMod, Int.reduceToNat, Int.reduceNeg, Int.reduceAdd, Int.reduceSub, Int.reduceMul, Int.reduceEq, Int.reduceNe, Int.reduceLT, Int.reduceLE, Int.reduceGT, Int.reduceGE, f0, f1, f2, f7, f29, f30, f31, hc]
      refine callI_of ((copy_spec s (by omega) idp _ (hl9 _ _ _ hpM)).mono ?_)
      rintro _ _ ⟨idn, hidn, rfl, rfl⟩
      obtain ⟨k9, hidnM⟩ := bnd_new hidn
      simp -implicitDefEqProofs (maxSteps := 1000000) (disch := omega) only [↓xsP, ↓vc_seq, xsQ, xsT, xsR, xsD, ↓reduceIte, reduceCtorEq, eq_self, ne_eq, imp_self, forall_const, Nat.reduceEqDiff, Nat.reduceAdd, Nat.reduceSub, Nat.reduceMul, Nat.reduceLT, Nat.reduceLeDiff, Nat.reduceBEq, Nat.reduceDiv, Nat.reduceMod, Int.reduceToNat, Int.reduceNeg, Int.reduceAdd, Int.reduceSub, Int.reduceMul, Int.reduceEq, Int.reduceNe, Int.reduceLT, Int.reduceLE, Int.reduceGT, Int.reduceGE, f0, f1, f2, f7, f29, f30, f31, hc]
      refine callI_of ((modelDo_spec s (by omega) c.op idn _ (Mem.set_eq _ _ _)).mono ?_)
      rintro _ _ ⟨rfl, rfl⟩
      rw [Mem.set_set]
      have hdl2 := doA_lenO s c.op
      have hdd := doL_len s c.op
      have hIn := I.with (hidnM idn (Nat.le_refl _)) (mapB (doL s c.op))
      have key : ∀ (X Y : Blk), ∃ N, N = (M2.set id9 X).set idn Y ∧ N id9 = some X ∧ (∀ j, idn + 1 ≤ j → N j = none) ∧ (M2.set idn Y).le N := fun X Y => by
        refine ⟨_, rfl, by rw [Mem.set_ne _ _ _ _ (by omega), Mem.set_eq], fun j hj => ?_, fun k bk hk => ?_⟩
        · rw [Mem.set_ne _ _ _ _ (by omega), Mem.set_ne _ _ _ _ (by omega)]
          exact hidnM j (by omega)
        · rw [Mem.set_app] at hk ⊢
          by_cases q : idn = k
          · rw [if_pos q] at hk ⊢
            exact hk
          · rw [if_neg q] at hk ⊢
            exact hl9 _ _ _ hk
      obtain ⟨N, hN, hN9, hNb, hNle⟩ := key (.cells 77 [c.row] 0) (mapB (doL s c.op))
      rw [row_cl] at hN hN9
      rw [← hN]
      clear hN
      simp -implicitDefEqProofs (maxSteps := 1000000) (disch := omega) only [↓xsP, ↓vc_seq, xsQ, xsT, xsR, xsD, ↓reduceIte, reduceCtorEq, eq_self, ne_eq, imp_self, forall_const, Nat.reduceEqDiff, Nat.reduceAdd, Nat.reduceSub, Nat.reduceMul, Nat.reduceLT, Nat.reduceLeDiff, Nat.reduceBEq, Nat.reduceDiv, Nat.reduceMod, Int.reduceToNat, Int.reduceNeg, Int.reduceAdd, Int.reduceSub, Int.reduceMul, Int.reduceEq, Int.reduceNe, Int.reduceLT, Int.reduceLE, Int.reduceGT, Int.reduceGE, f0, f1, f2, f7, f29, f30, f31, hc]
      refine newI_intro fun id11 hid11 => ?_
      have k11 := lt_of_bnd hid11 hN9
      have hN9' : ∀ X : Blk, (N.set id11 X) id9 = N id9 := fun X => Mem.set_ne _ _ _ _ (by omega)
      have h11 : ∀ X : Blk, N.le (N.set id11 X) := fun X => le_new (Mem.le_refl _) hid11
      have hgo : ∀ (X : Blk), SIn B (N.set id11 X) ids idm o C L ks := fun X => (hIn.grow fun k bk hk => h11 _ _ _ (hNle _ _ hk)).base (fun k bk hk => by
        rw [Mem.set_ne _ _ _ _ (fun e => by rw [← e] at hk; have := I.le _ _ hk; rw [hidnM _ (Nat.le_refl _)] at this; cases this)]
        exact hk)
      simp -implicitDefEqProofs (maxSteps := 1000000) (disch := omega) only [↓xsP, xsQ, xsT, xsR, xsD, ↓reduceIte, reduceCtorEq, eq_self, ne_eq, imp_self, forall_const, Nat.reduceEqDiff, Nat.reduceAdd, Nat.reduceSub, Nat.reduceMul, Nat.reduceLT, Nat.reduceLeDiff, Nat.reduceBEq, Nat.reduceDiv, Nat.reduceMod, Int.reduceToNat, Int.reduceNeg, Int.reduceAdd, Int.reduceSub, Int.reduceMul, Int.reduceEq, Int.reduceNe, Int.reduceLT, Int.reduceLE, Int.reduceGT, Int.reduceGE, f0, f1, f2, f7, f29, f30, f31, hc, hN9', hN9]
      obtain ⟨sk, hsk⟩ : ∃ sk, sk = bof (0 ≤ c.fin ∧ doA s c.op ≠ c.ans) := ⟨_, rfl⟩
      refine vc_cut (fun fr2 M4 => fr2 0 = .l (.ptr ids 0 0) ∧ fr2 1 = .l (.int .i64 d) ∧ fr2 2 = .l (.ptr idp 0 0) ∧ fr2 7 = .l (txt (stTxt d s)) ∧ fr2 29 = .l (.sl (C.map Cl.row)) ∧ fr2 30 = .l (.int .i64 C.length) ∧ fr2 31 = .l (.int .i64 i) ∧ fr2 8 = .l (.int .i64 i) ∧ fr2 10 = .l (.ptr idn 0 0) ∧ fr2 56 = .l (.bool sk) ∧ SIn (B.set idn (mapB (doL s c.op))) M4 ids idm o C L ks ∧ M2.le M4) ?_ ?_
      · have hI4 : ∀ X : Blk, SIn (B.set idn (mapB (doL s c.op))) (N.set id11 X) ids idm o C L ks := fun X => hIn.grow fun k bk hk => h11 _ _ _ (hNle _ _ hk)
        have hM4 : ∀ X : Blk, M2.le (N.set id11 X) := fun X k bk hk => h11 _ _ _ (hNle _ _ (le_new (Mem.le_refl _) hidnM _ _ hk))
        simp -implicitDefEqProofs (maxSteps := 1000000) (disch := omega) only [↓xsP, ↓vc_seq, xsQ, xsT, xsR, xsD, ↓reduceIte, reduceCtorEq, eq_self, ne_eq, imp_self, forall_const, Nat.reduceEqDiff, Nat.reduceAdd, Nat.reduceSub, Nat.reduceMul, Nat.reduceLT, Nat.reduceLeDiff, Nat.reduceBEq, Nat.reduceDiv, Nat.reduceMod, Int.reduceToNat, Int.reduceNeg, Int.reduceAdd, Int.reduceSub, Int.reduceMul, Int.reduceEq, Int.reduceNe, Int.reduceLT, Int.reduceLE, Int.reduceGT, Int.reduceGE, f0, f1, f2, f7, f29, f30, f31, hc, hN9', hN9]
        refine gI_prop (fun hf => ?_) (fun hf => ?_)
        · simp -implicitDefEqProofs (maxSteps := 1000000) (disch := omega) only [↓xsP, ↓vc_seq, xsQ, xsT, xsR, xsD, ↓reduceIte, reduceCtorEq, eq_self, ne_eq, imp_self, forall_const, Nat.reduceEqDiff, Nat.reduceAdd, Nat.reduceSub, Nat.reduceMul, Nat.reduceLT, Nat.reduceLeDiff, Nat.reduceBEq, Nat.reduceDiv, Nat.reduceMod, Int.reduceToNat, Int.reduceNeg, Int.reduceAdd, Int.reduceSub, Int.reduceMul, Int.reduceEq, Int.reduceNe, Int.reduceLT, Int.reduceLE, Int.reduceGT, Int.reduceGE, f0, f1, f2, f7, f29, f30, f31, hc, hN9', hN9, hf]
          refine call_of (sameAns_spec (doA s c.op) c.ans (by omega) _) ?_
          simp -implicitDefEqProofs (maxSteps := 1000000) (disch := omega) only [↓xsP, ↓vc_seq, xsQ, xsT, xsR, xsD, ↓reduceIte, reduceCtorEq, eq_self, ne_eq, imp_self, forall_const, Nat.reduceEqDiff, Nat.reduceAdd, Nat.reduceSub, Nat.reduceMul, Nat.reduceLT, Nat.reduceLeDiff, Nat.reduceBEq, Nat.reduceDiv, Nat.reduceMod, Int.reduceToNat, Int.reduceNeg, Int.reduceAdd, Int.reduceSub, Int.reduceMul, Int.reduceEq, Int.reduceNe, Int.reduceLT, Int.reduceLE, Int.reduceGT, Int.reduceGE, f0, f1, f2, f7, f29, f30, f31, hc, hN9', hN9, hf]
          refine ⟨?_, hI4 _, hM4 _⟩
          rw [hsk]
          cases he : bof (doA s c.op = c.ans) with
          | true => rw [bof_false fun h => h.2 (bof_iff.1 he)]; rfl
          | false => rw [bof_true ⟨hf, bof_not.1 he⟩]; rfl
        · simp -implicitDefEqProofs (maxSteps := 1000000) (disch := omega) only [↓xsP, ↓vc_seq, xsQ, xsT, xsR, xsD, ↓reduceIte, reduceCtorEq, eq_self, ne_eq, imp_self, forall_const, Nat.reduceEqDiff, Nat.reduceAdd, Nat.reduceSub, Nat.reduceMul, Nat.reduceLT, Nat.reduceLeDiff, Nat.reduceBEq, Nat.reduceDiv, Nat.reduceMod, Int.reduceToNat, Int.reduceNeg, Int.reduceAdd, Int.reduceSub, Int.reduceMul, Int.reduceEq, Int.reduceNe, Int.reduceLT, Int.reduceLE, Int.reduceGT, Int.reduceGE, f0, f1, f2, f7, f29, f30, f31, hc, hN9', hN9, hf]
          refine ⟨?_, hI4 _, hM4 _⟩
          rw [hsk, bof_false fun h => hf h.1]
      rintro fr2 M4 ⟨g0, g1, g2, g7, g29, g30, g31, g8, g10, g56, I4, hle4⟩
      have hown4 := I4.own
      rw [sRow] at hown4
      simp -implicitDefEqProofs (maxSteps := 1000000) (disch := omega) only [↓xsP, ↓vc_seq, xsQ, xsT, xsR, xsD, ↓reduceIte, reduceCtorEq, eq_self, ne_eq, imp_self, forall_const, Nat.reduceEqDiff, Nat.reduceAdd, Nat.reduceSub, Nat.reduceMul, Nat.reduceLT, Nat.reduceLeDiff, Nat.reduceBEq, Nat.reduceDiv, Nat.reduceMod, Int.reduceToNat, Int.reduceNeg, Int.reduceAdd, Int.reduceSub, Int.reduceMul, Int.reduceEq, Int.reduceNe, Int.reduceLT, Int.reduceLE, Int.reduceGT, Int.reduceGE, g0, g1, g2, g7, g29, g30, g31, g8, g10, g56]
      refine condI_intro (fun hs1 => ?_) (fun hs1 => ?_)
      · simp -implicitDefEqProofs (maxSteps := 1000000) (disch := omega) only [↓xsP, ↓vc_seq, xsQ, xsT, xsR, xsD, ↓reduceIte, reduceCtorEq, eq_self, ne_eq, imp_self, forall_const, Nat.reduceEqDiff, Nat.reduceAdd, Nat.reduceSub, Nat.reduceMul, Nat.reduceLT, Nat.reduceLeDiff, Nat.reduceBEq, Nat.reduceDiv, Nat.reduceMod, Int.reduceToNat, Int.reduceNeg, Int.reduceAdd, Int.reduceSub, Int.reduceMul, Int.reduceEq, Int.reduceNe, Int.reduceLT, Int.reduceLE, Int.reduceGT, Int.reduceGE, g0, g1, g2, g7, g29, g30, g31, g8, g10, g56]
        have := bof_iff.1 (hsk.symm.trans hs1)
        exact ⟨C.length - (i + 1), M2, by omega, hle4, i + 1, o, ks, by omega, rfl, by simp, I, hks, hskip fun _ h => this.2 (h this.1)⟩
      have hgood : 0 ≤ c.fin → doA s c.op = c.ans := fun h => by
        have := bof_not.1 (hsk.symm.trans hs1)
        by_cases e : doA s c.op = c.ans
        · exact e
        · exact absurd ⟨h, e⟩ this
      simp -implicitDefEqProofs (maxSteps := 1000000) (disch := omega) only [↓xsP, ↓vc_seq, xsQ, xsT, xsR, xsD, ↓reduceIte, reduceCtorEq, eq_self, ne_eq, imp_self, forall_const, Nat.reduceEqDiff, Nat.reduceAdd, Nat.reduceSub, Nat.reduceMul, Nat.reduceLT, Nat.reduceLeDiff, Nat.reduceBEq, Nat.reduceDiv, Nat.reduceMod, Int.reduceToNat, Int.reduceNeg, Int.reduceAdd, Int.reduceSub, Int.reduceMul, Int.reduceEq, Int.reduceNe, Int.reduceLT, Int.reduceLE, Int.reduceGT, Int.reduceGE, g0, g1, g2, g7, g29, g30, g31, g8, g10, g56, hown4]
      refine newI_intro fun ida hida => ?_
      simp -implicitDefEqProofs (maxSteps := 1000000) (disch := omega) only [↓xsP, ↓vc_seq, xsQ, xsT, xsR, xsD, ↓reduceIte, reduceCtorEq, eq_self, ne_eq, imp_self, forall_const, Nat.reduceEqDiff, Nat.reduceAdd, Nat.reduceSub, Nat.reduceMul, Nat.reduceLT, Nat.reduceLeDiff, Nat.reduceBEq, Nat.reduceDiv, Nat.reduceMod, Int.reduceToNat, Int.reduceNeg, Int.reduceAdd, Int.reduceSub, Int.reduceMul, Int.reduceEq, Int.reduceNe, Int.reduceLT, Int.reduceLE, Int.reduceGT, Int.reduceGE, g0, g1, g2, g7, g29, g30, g31, g8, g10, g56, hown4]
      refine app_ord I4 hida i (by omega) fun idO N' rows b1 b2 b3 b4 b5 b6 b7 b8 => ?_
      rw [sRow] at b2
      simp -implicitDefEqProofs (maxSteps := 1000000) (disch := omega) only [↓xsP, ↓vc_seq, xsQ, xsT, xsR, xsD, ↓reduceIte, reduceCtorEq, eq_self, ne_eq, imp_self, forall_const, Nat.reduceEqDiff, Nat.reduceAdd, Nat.reduceSub, Nat.reduceMul, Nat.reduceLT, Nat.reduceLeDiff, Nat.reduceBEq, Nat.reduceDiv, Nat.reduceMod, Int.reduceToNat, Int.reduceNeg, Int.reduceAdd, Int.reduceSub, Int.reduceMul, Int.reduceEq, Int.reduceNe, Int.reduceLT, Int.reduceLE, Int.reduceGT, Int.reduceGE, g0, g1, g2, g7, g29, g30, g31, g8, g10, g56, b2]
      rw [or_pow d i hd (by omega)]
      have I5 : SIn (B.set idn (mapB (doL s c.op))) (N'.set ids (.cells 58 [sRow C idm (.ms idO 0 (L.length + 1))] 0)) ids idm (.ms idO 0 (L ++ [(i : Int)]).length) C (L ++ [(i : Int)]) ks := by
        have e1 : (L ++ [(i : Int)]).length = L.length + 1 := by simp
        refine ⟨fun k bk hk => ?_, I4.n1, I4.n2, I4.ne, by rw [Mem.set_eq, e1], by rw [Mem.set_ne _ _ _ _ I4.ne]; exact b3, .inr ⟨idO, rows, b4, rfl, by rw [Mem.set_ne _ _ _ _ (fun e => b8 e.symm)]; exact b5, by rw [e1]; exact b6, by rw [e1]; exact b7⟩⟩
        rw [Mem.set_ne _ _ _ _ (fun e => by rw [← e, I4.n1] at hk; cases hk)]
        exact b1 _ _ hk
      rw [sRow] at I5
      have hcm : c ∈ C := by rw [← hc]; exact getD_mem' C default hil
      refine callI_of ((ih (d ||| 2 ^ i) (by omega) hdl (doL s c.op) (hs.doL (hCo c hcm)) (by omega) _ _ ids idm idn _ (L ++ [(i : Int)]) ks (by simp; omega) hks I5 (Mem.set_eq _ _ _)).mono ?_)
      rintro _ M6 ⟨b, o6, L6, ks6, rfl, I6, hks6, ht, hf⟩
      have hB6 : B.le (B.set idn (mapB (doL s c.op))) := fun k bk hk => by
        rw [Mem.set_ne _ _ _ _ (fun e => by rw [← e] at hk; have := I.le _ _ hk; rw [hidnM _ (Nat.le_refl _)] at this; cases this)]
        exact hk
      have I6B := I6.base hB6
      have hown6 := I6.own
      rw [sRow] at hown6
      simp -implicitDefEqProofs (maxSteps := 1000000) (disch := omega) only [↓xsP, ↓vc_seq, xsQ, xsT, xsR, xsD, ↓reduceIte, reduceCtorEq, eq_self, ne_eq, imp_self, forall_const, Nat.reduceEqDiff, Nat.reduceAdd, Nat.reduceSub, Nat.reduceMul, Nat.reduceLT, Nat.reduceLeDiff, Nat.reduceBEq, Nat.reduceDiv, Nat.reduceMod, Int.reduceToNat, Int.reduceNeg, Int.reduceAdd, Int.reduceSub, Int.reduceMul, Int.reduceEq, Int.reduceNe, Int.reduceLT, Int.reduceLE, Int.reduceGT, Int.reduceGE, g0, g1, g2, g7, g29, g30, g31, g8, g10, g56, hown6]
      refine condI_intro (fun hb1 => ?_) (fun hb1 => ?_)
      · simp -implicitDefEqProofs (maxSteps := 1000000) (disch := omega) only [↓xsP, ↓vc_seq, xsQ, xsT, xsR, xsD, ↓reduceIte, reduceCtorEq, eq_self, ne_eq, imp_self, forall_const, Nat.reduceEqDiff, Nat.reduceAdd, Nat.reduceSub, Nat.reduceMul, Nat.reduceLT, Nat.reduceLeDiff, Nat.reduceBEq, Nat.reduceDiv, Nat.reduceMod, Int.reduceToNat, Int.reduceNeg, Int.reduceAdd, Int.reduceSub, Int.reduceMul, Int.reduceEq, Int.reduceNe, Int.reduceLT, Int.reduceLE, Int.reduceGT, Int.reduceGE, g0, g1, g2, g7, g29, g30, g31, g8, g10, g56, hown6]
        obtain ⟨l, hl, hL6⟩ := ht hb1
        refine fin_ok (Mem.le_refl _) ⟨true, o6, L6, ks6, rfl, I6B, hks6, fun _ => ⟨i :: l, .cons hil hfr' (by rw [hc]; exact hgood) (by rw [hc]; exact hl), by rw [hL6]; simp⟩, (fun h => absurd h (by decide))⟩
      obtain ⟨hL6, hdead⟩ := hf hb1
      simp -implicitDefEqProofs (maxSteps := 1000000) (disch := omega) only [↓xsP, xsQ, xsT, xsR, xsD, ↓reduceIte, reduceCtorEq, eq_self, ne_eq, imp_self, forall_const, Nat.reduceEqDiff, Nat.reduceAdd, Nat.reduceSub, Nat.reduceMul, Nat.reduceLT, Nat.reduceLeDiff, Nat.reduceBEq, Nat.reduceDiv, Nat.reduceMod, Int.reduceToNat, Int.reduceNeg, Int.reduceAdd, Int.reduceSub, Int.reduceMul, Int.reduceEq, Int.reduceNe, Int.reduceLT, Int.reduceLE, Int.reduceGT, Int.reduceGE, g0, g1, g2, g7, g29, g30, g31, g8, g10, g56, hown6]
      rcases I6.ord with ⟨h, -⟩ | ⟨i6, r6, a1, rfl, a3, a4, a5⟩
      · rw [hL6] at h; simp at h
      rw [hL6] at a4 a5 hown6
      have hl6 : (L ++ [(i : Int)]).length = L.length + 1 := by simp
      rw [hl6] at a4 a5 hown6
      have wk1 : IntKind.i64.wrap (((L.length + 1 : Nat) : Int) - 1) = (L.length : Int) := by rw [wrap_in (by omega) (by omega)]; omega
      refine xwrite (fun n0 => [ (14, ids)]) [14] [] [[], [], [], [], [], [], [], [], [], [], [], [], [], [], []] (by kernel_rfl) (by kernel_rfl) (by kernel_rfl) (by kernel_rfl) (fun n0 hn0 => ⟨rfl, ?_, ?_⟩)
      · exact TOk_cons (.inl (lt_of_bnd hn0 hown6)) (TOk_nil _ _)
      · have q1 : (0 ≤ (L.length : Int)) = True := eq_true (by omega)
        have q2 : (L.length ≤ L.length + 1) = True := eq_true (by omega)
        simp -implicitDefEqProofs (maxSteps := 1000000) (disch := omega) only [↓xsP, ↓vc_seq, xsQ, xsT, xsR, xsD, ↓reduceIte, reduceCtorEq, eq_self, ne_eq, imp_self, forall_const, Nat.reduceEqDiff, Nat.reduceAdd, Nat.reduceSub, Nat.reduceMul, Nat.reduceLT, Nat.reduceLeDiff, Nat.reduceBEq, Nat.reduceDiv, Nat.reduceMod, Int.reduceToNat, Int.reduceNeg, Int.reduceAdd, Int.reduceSub, Int.reduceMul, Int.reduceEq, Int.reduceNe, Int.reduceLT, Int.reduceLE, Int.reduceGT, Int.reduceGE, g0, g1, g2, g7, g29, g30, g31, g8, g10, g56, hown6, wk1, q1, q2, Int.toNat_natCast]
        refine ⟨C.length - (i + 1), M6.set ids (.cells 58 [sRow C idm (.ms i6 0 L.length)] 0), by omega, ?_, i + 1, .ms i6 0 L.length, ks6, by omega, rfl, by simp, ⟨?_, I.n1, I.n2, I.ne, Mem.set_eq _ _ _, ?_, .inr ⟨i6, r6, ?_, rfl, ?_, by omega, ?_⟩⟩, hks6, fun j hj h1 h2 => ?_⟩
        · exact Mem.le_refl _
        · intro k bk hk
          rw [Mem.set_ne _ _ _ _ (fun e => by rw [← e, I.n1] at hk; cases hk)]
          exact I6B.le _ _ hk
        · rw [Mem.set_ne _ _ _ _ I.ne]
          exact I6B.map
        · cases hB : B i6 with
          | none => rfl
          | some bk => have := hB6 _ _ hB; rw [a1] at this; cases this
        · rw [Mem.set_ne _ _ _ _ (fun e => by rw [← e, hown6] at a3; cases a3)]
          exact a3
        · have := congrArg (List.take L.length) a5
          rw [List.take_take, Nat.min_eq_left (by omega)] at this
          rw [this, ← List.map_take, List.take_left]
        · by_cases e : j = i
          · rw [e, hc]
            exact hdead
          · exact hno j (by omega) h1 h2
  · simp -implicitDefEqProofs (maxSteps := 1000000) (disch := omega) only [↓xsP, ↓vc_seq, xsQ, xsT, xsR, xsD, ↓reduceIte, reduceCtorEq, eq_self, ne_eq, imp_self, forall_const, Nat.reduceEqDiff, Nat.reduceAdd, Nat.reduceSub, Nat.reduceMul, Nat.reduceLT, Nat.reduceLeDiff, Nat.reduceBEq, Nat.reduceDiv, Nat.reduceMod, Int.reduceToNat, Int.reduceNeg, Int.reduceAdd, Int.reduceSub, Int.reduceMul, Int.reduceEq, Int.reduceNe, Int.reduceLT, Int.reduceLE, Int.reduceGT, Int.reduceGE, f0, f1, f2, f7, f29, f30, f31]
    have hil : i = C.length := by omega
    simp -implicitDefEqProofs (maxSteps := 1000000) (disch := omega) only [↓xsP, ↓vc_seq, xsQ, xsT, xsR, xsD, ↓reduceIte, reduceCtorEq, eq_self, ne_eq, imp_self, forall_const, Nat.reduceEqDiff, Nat.reduceAdd, Nat.reduceSub, Nat.reduceMul, Nat.reduceLT, Nat.reduceLeDiff, Nat.reduceBEq, Nat.reduceDiv, Nat.reduceMod, Int.reduceToNat, Int.reduceNeg, Int.reduceAdd, Int.reduceSub, Int.reduceMul, Int.reduceEq, Int.reduceNe, Int.reduceLT, Int.reduceLE, Int.reduceGT, Int.reduceGE, f0, f1, f2, f7, f29, f30, f31, hown]
    rw [mapUpd_txt (P := Go.Proofs.Tryd.prog) (M := M2) (t := 56) ⟨⟨_, _, _, _, _, ti_56, rfl, ti_9, rfl, ti_3, rfl⟩⟩ I.map (stTxt d s)]
    simp -implicitDefEqProofs (maxSteps := 1000000) (disch := omega) only [↓xsP, ↓vc_seq, xsQ, xsT, xsR, xsD, ↓reduceIte, reduceCtorEq, eq_self, ne_eq, imp_self, forall_const, Nat.reduceEqDiff, Nat.reduceAdd, Nat.reduceSub, Nat.reduceMul, Nat.reduceLT, Nat.reduceLeDiff, Nat.reduceBEq, Nat.reduceDiv, Nat.reduceMod, Int.reduceToNat, Int.reduceNeg, Int.reduceAdd, Int.reduceSub, Int.reduceMul, Int.reduceEq, Int.reduceNe, Int.reduceLT, Int.reduceLE, Int.reduceGT, Int.reduceGE]
    have hord : ∀ X : Blk, (L = [] ∧ o = .nils) ∨ ∃ idO rows, B idO = none ∧ o = .ms idO 0 L.length ∧ (M2.set idm X) idO = some (.cells 3 rows 0) ∧ L.length ≤ rows.length ∧ rows.take L.length = L.map irow := fun X => by
      rcases I.ord with h | ⟨idO, rows, a1, a2, a3, a4⟩
      · exact .inl h
      · exact .inr ⟨idO, rows, a1, a2, by rw [Mem.set_ne _ _ _ _ (fun e => by rw [← e, I.map] at a3; cases a3)]; exact a3, a4⟩
    have hdd : Dead C d s := by
      rintro ⟨l, hl⟩
      cases hl with
      | nil h => exact h hdue
      | cons hi hf ha h => exact hno _ (by omega) hf ha ⟨_, h⟩
    refine fin_ok (Mem.le_refl _) ⟨false, o, L, kput ks (stTxt d s), rfl, ⟨fun k bk hk => ?_, I.n1, I.n2, I.ne, by rw [Mem.set_ne _ _ _ _ (fun e => I.ne e.symm)]; exact I.own, Mem.set_eq _ _ _, hord _⟩, fun x hx => ?_, (fun h => absurd h (by decide)), fun _ => ⟨rfl, hdd⟩⟩
    · rw [Mem.set_ne _ _ _ _ (fun e => by rw [← e, I.n2] at hk; cases hk)]
      exact I.le _ _ hk
    · rcases kput_mem.1 hx with h | h
      · exact hks x h
      · exact ⟨d, s, h, hdd⟩
end Go.X
set_option linter.unusedVariables false
set_option linter.unusedSimpArgs false
set_option maxHeartbeats 20000000
set_option maxRecDepth 100000
namespace Go.X
open Go.Proofs.Tryd (prog)

/-- What may be asked: a beginning, a history, not too many calls. -/
def Askable (b : List Pr) (h : List Evt) : Prop := Rises b ∧ okP h = true ∧ (callsP h).length ≤ 16
def ixs (l : List Nat) : List Int := l.map fun i : Nat => (i : Int)
inductive Found (b : List Pr) (h : List Evt) : List Int → Bool → Int → Prop
  | bad (hn : ¬ Askable b h) : Found b h [] false 1
  | none (ha : Askable b h) (hd : Dead (callsP h) 0 (putL b)) : Found b h [] false 0
  | some (ha : Askable b h) {l : List Nat} (hc : Comp (callsP h) 0 (putL b) l) : Found b h (ixs l) true 0
theorem putL_ok {b : List Pr} (hb : AllOk b) : AllOk (putL b) := by
  have key : ∀ (l s : List Pr), AllOk l → AllOk s → AllOk (l.foldl (fun s p => doL s (putOp p)) s) := by
    intro l
    induction l with
    | nil => intro s _ h; exact h
    | cons p l ih =>
      intro s h1 h2
      exact ih _ (fun x hx => h1 x (by simp [hx])) (h2.doL (h1 p (by simp)))
  exact key b [] hb (fun x hx => by cases hx)
theorem lfind_spec (b : List Pr) (h : List Evt) (hb : b.length ≤ 1000) (hbo : AllOk b) (hs : Small h) (hho : OpsOk (callsP h)) (M : Mem) :
    XCalls Go.Proofs.Tryd.prog 14 [.l (.sl (b.map Pr.row)), .l (.sl (h.map Evt.row))] M fun r M' => M' = M ∧ ∃ l ok e, Found b h l ok e ∧ r = .tup [.l (.sl (l.map irow)), .l (.bool ok), .l (.int .i64 e)] := by
  refine xcalls_intro (rs := [.tmp 4, .tmp 5, .tmp 6]) Go.Proofs.Tryd.func14 rfl (by kernel_rfl) rfl rfl (by kernel_rfl) (by simp) ?_
  simp -implicitDefEqProofs (maxSteps := 1000000) (disch := omega) only [↓xsP, ↓vc_seq, xsQ, xsT, xsR, xsD, ↓reduceIte, reduceCtorEq, eq_self, ne_eq, imp_self, forall_const, Nat.reduceEqDiff, Nat.reduceAdd, Nat.reduceSub, Nat.reduceMul, Nat.reduceLT, Nat.reduceLeDiff, Nat.reduceBEq, Nat.reduceDiv, Nat.reduceMod, Int.reduceToNat, Int.reduceNeg, Int.reduceAdd, Int.reduceSub, Int.reduceMul, Int.reduceEq, Int.reduceNe, Int.reduceLT, Int.reduceLE, Int.reduceGT, Int.reduceGE]
  refine call_of (pcalls_spec h hs _) ?_
  simp -implicitDefEqProofs (maxSteps := 1000000) (disch := omega) only [↓xsP, ↓vc_seq, xsQ, xsT, xsR, xsD, ↓reduceIte, reduceCtorEq, eq_self, ne_eq, imp_self, forall_const, Nat.reduceEqDiff, Nat.reduceAdd, Nat.reduceSub, Nat.reduceMul, Nat.reduceLT, Nat.reduceLeDiff, Nat.reduceBEq, Nat.reduceDiv, Nat.reduceMod, Int.reduceToNat, Int.reduceNeg, Int.reduceAdd, Int.reduceSub, Int.reduceMul, Int.reduceEq, Int.reduceNe, Int.reduceLT, Int.reduceLE, Int.reduceGT, Int.reduceGE]
  refine newI_intro fun idm hidm => ?_
  simp -implicitDefEqProofs (maxSteps := 1000000) (disch := omega) only [↓xsP, ↓vc_seq, xsQ, xsT, xsR, xsD, ↓reduceIte, reduceCtorEq, eq_self, ne_eq, imp_self, forall_const, Nat.reduceEqDiff, Nat.reduceAdd, Nat.reduceSub, Nat.reduceMul, Nat.reduceLT, Nat.reduceLeDiff, Nat.reduceBEq, Nat.reduceDiv, Nat.reduceMod, Int.reduceToNat, Int.reduceNeg, Int.reduceAdd, Int.reduceSub, Int.reduceMul, Int.reduceEq, Int.reduceNe, Int.reduceLT, Int.reduceLE, Int.reduceGT, Int.reduceGE]
  refine newI_intro fun ids hids => ?_
  simp -implicitDefEqProofs (maxSteps := 1000000) (disch := omega) only [↓xsP, ↓vc_seq, xsQ, xsT, xsR, xsD, ↓reduceIte, reduceCtorEq, eq_self, ne_eq, imp_self, forall_const, Nat.reduceEqDiff, Nat.reduceAdd, Nat.reduceSub, Nat.reduceMul, Nat.reduceLT, Nat.reduceLeDiff, Nat.reduceBEq, Nat.reduceDiv, Nat.reduceMod, Int.reduceToNat, Int.reduceNeg, Int.reduceAdd, Int.reduceSub, Int.reduceMul, Int.reduceEq, Int.reduceNe, Int.reduceLT, Int.reduceLE, Int.reduceGT, Int.reduceGE]
  obtain ⟨kms, hidsM⟩ := bnd_new hids
  have hle : ∀ X Y : Blk, M.le ((M.set idm X).set ids Y) := fun X Y => le_new (le_new (Mem.le_refl _) hidm) hidsM
  have hbad : ∀ (X Y : Blk), ¬ Askable b h → @finI Go.Proofs.Tryd.prog (.tup [.l .nils, .l (.bool false), .l (.int .i64 1)]) ((M.set idm X).set ids Y) ⟨fun r M' => M' = M ∧ ∃ l ok e, Found b h l ok e ∧ r = .tup [.l (.sl (l.map irow)), .l (.bool ok), .l (.int .i64 e)]⟩ := fun X Y hn => finI_of (XFin.wk (XFin.le (hle _ _) ⟨rfl, [], false, 1, .bad hn, rfl⟩))
  refine call_of (may_spec b (by omega) _) ?_
  by_cases hR : Rises b
  rotate_left
  · rw [bof_false hR]
    simp -implicitDefEqProofs (maxSteps := 1000000) (disch := omega) only [↓xsP, ↓vc_seq, xsQ, xsT, xsR, xsD, ↓reduceIte, reduceCtorEq, eq_self, ne_eq, imp_self, forall_const, Nat.reduceEqDiff, Nat.reduceAdd, Nat.reduceSub, Nat.reduceMul, Nat.reduceLT, Nat.reduceLeDiff, Nat.reduceBEq, Nat.reduceDiv, Nat.reduceMod, Int.reduceToNat, Int.reduceNeg, Int.reduceAdd, Int.reduceSub, Int.reduceMul, Int.reduceEq, Int.reduceNe, Int.reduceLT, Int.reduceLE, Int.reduceGT, Int.reduceGE]
    exact hbad _ _ fun h => hR h.1
  rw [bof_true hR]
  simp -implicitDefEqProofs (maxSteps := 1000000) (disch := omega) only [↓xsP, ↓vc_seq, xsQ, xsT, xsR, xsD, ↓reduceIte, reduceCtorEq, eq_self, ne_eq, imp_self, forall_const, Nat.reduceEqDiff, Nat.reduceAdd, Nat.reduceSub, Nat.reduceMul, Nat.reduceLT, Nat.reduceLeDiff, Nat.reduceBEq, Nat.reduceDiv, Nat.reduceMod, Int.reduceToNat, Int.reduceNeg, Int.reduceAdd, Int.reduceSub, Int.reduceMul, Int.reduceEq, Int.reduceNe, Int.reduceLT, Int.reduceLE, Int.reduceGT, Int.reduceGE]
  refine call_of (pmay_spec h hs _) ?_
  cases hok : okP h with
  | false =>
    simp -implicitDefEqProofs (maxSteps := 1000000) (disch := omega) only [↓xsP, ↓vc_seq, xsQ, xsT, xsR, xsD, ↓reduceIte, reduceCtorEq, eq_self, ne_eq, imp_self, forall_const, Nat.reduceEqDiff, Nat.reduceAdd, Nat.reduceSub, Nat.reduceMul, Nat.reduceLT, Nat.reduceLeDiff, Nat.reduceBEq, Nat.reduceDiv, Nat.reduceMod, Int.reduceToNat, Int.reduceNeg, Int.reduceAdd, Int.reduceSub, Int.reduceMul, Int.reduceEq, Int.reduceNe, Int.reduceLT, Int.reduceLE, Int.reduceGT, Int.reduceGE]
    exact hbad _ _ fun hh => by have := hh.2.1; rw [hok] at this; cases this
  | true =>
  simp -implicitDefEqProofs (maxSteps := 1000000) (disch := omega) only [↓xsP, ↓vc_seq, xsQ, xsT, xsR, xsD, ↓reduceIte, reduceCtorEq, eq_self, ne_eq, imp_self, forall_const, Nat.reduceEqDiff, Nat.reduceAdd, Nat.reduceSub, Nat.reduceMul, Nat.reduceLT, Nat.reduceLeDiff, Nat.reduceBEq, Nat.reduceDiv, Nat.reduceMod, Int.reduceToNat, Int.reduceNeg, Int.reduceAdd, Int.reduceSub, Int.reduceMul, Int.reduceEq, Int.reduceNe, Int.reduceLT, Int.reduceLE, Int.reduceGT, Int.reduceGE]
  refine condI_prop (fun hlt => ?_) (fun hlt => ?_)
  · simp -implicitDefEqProofs (maxSteps := 1000000) (disch := omega) only [↓xsP, ↓vc_seq, xsQ, xsT, xsR, xsD, ↓reduceIte, reduceCtorEq, eq_self, ne_eq, imp_self, forall_const, Nat.reduceEqDiff, Nat.reduceAdd, Nat.reduceSub, Nat.reduceMul, Nat.reduceLT, Nat.reduceLeDiff, Nat.reduceBEq, Nat.reduceDiv, Nat.reduceMod, Int.reduceToNat, Int.reduceNeg, Int.reduceAdd, Int.reduceSub, Int.reduceMul, Int.reduceEq, Int.reduceNe, Int.reduceLT, Int.reduceLE, Int.reduceGT, Int.reduceGE]
    exact hbad _ _ fun h => by have := h.2.2; omega
  have hask : Askable b h := ⟨hR, hok, by omega⟩
  simp -implicitDefEqProofs (maxSteps := 1000000) (disch := omega) only [↓xsP, ↓vc_seq, xsQ, xsT, xsR, xsD, ↓reduceIte, reduceCtorEq, eq_self, ne_eq, imp_self, forall_const, Nat.reduceEqDiff, Nat.reduceAdd, Nat.reduceSub, Nat.reduceMul, Nat.reduceLT, Nat.reduceLeDiff, Nat.reduceBEq, Nat.reduceDiv, Nat.reduceMod, Int.reduceToNat, Int.reduceNeg, Int.reduceAdd, Int.reduceSub, Int.reduceMul, Int.reduceEq, Int.reduceNe, Int.reduceLT, Int.reduceLE, Int.reduceGT, Int.reduceGE]
  refine callI_of ((new_spec b (by omega) _).mono ?_)
  rintro _ _ ⟨idp, hidp, rfl, rfl⟩
  obtain ⟨ksp, hidpM⟩ := bnd_new hidp
  obtain ⟨kmp, hidpM⟩ := bnd_new hidpM
  have hpl := putL_len b
  have I : SIn (M.set idp (mapB (putL b))) (((M.set idm (.map [])).set ids (.cells 58 [sRow (callsP h) idm .nils] 0)).set idp (mapB (putL b))) ids idm .nils (callsP h) [] [] := by
    refine ⟨fun k bk hk => ?_, ?_, ?_, by omega, ?_, ?_, .inl ⟨rfl, rfl⟩⟩
    · rw [Mem.set_app] at hk ⊢
      by_cases q : idp = k
      · rw [if_pos q] at hk ⊢
        exact hk
      · rw [if_neg q] at hk ⊢
        exact hle _ _ _ _ hk
    · rw [Mem.set_ne _ _ _ _ (by omega)]
      exact hidsM _ (Nat.le_refl _)
    · rw [Mem.set_ne _ _ _ _ (by omega)]
      exact hidm _ (Nat.le_refl _)
    · rw [Mem.set_ne _ _ _ _ (by omega), Mem.set_eq]
    · rw [Mem.set_ne _ _ _ _ (by omega), Mem.set_ne _ _ _ _ (by omega), Mem.set_eq]
      rfl
  rw [sRow] at I
  simp -implicitDefEqProofs (maxSteps := 1000000) (disch := omega) only [↓xsP, ↓vc_seq, xsQ, xsT, xsR, xsD, ↓reduceIte, reduceCtorEq, eq_self, ne_eq, imp_self, forall_const, Nat.reduceEqDiff, Nat.reduceAdd, Nat.reduceSub, Nat.reduceMul, Nat.reduceLT, Nat.reduceLeDiff, Nat.reduceBEq, Nat.reduceDiv, Nat.reduceMod, Int.reduceToNat, Int.reduceNeg, Int.reduceAdd, Int.reduceSub, Int.reduceMul, Int.reduceEq, Int.reduceNe, Int.reduceLT, Int.reduceLE, Int.reduceGT, Int.reduceGE]
  refine callI_of ((sgoes_spec (callsP h) (by omega) hho 65536 0 (by omega) (by omega) (putL b) (putL_ok hbo) (by omega) _ _ ids idm idp _ [] [] (by simp) (fun k hk => by cases hk) I (Mem.set_eq _ _ _)).mono ?_)
  rintro _ M6 ⟨bo, o6, L6, ks6, rfl, I6, -, ht, hf⟩
  have hown6 := I6.own
  rw [sRow] at hown6
  have hle6 : M.le M6 := fun k bk hk => I6.le _ _ (le_new (b := mapB (putL b)) (Mem.le_refl _) hidpM _ _ hk)
  simp -implicitDefEqProofs (maxSteps := 1000000) (disch := omega) only [↓xsP, ↓vc_seq, xsQ, xsT, xsR, xsD, ↓reduceIte, reduceCtorEq, eq_self, ne_eq, imp_self, forall_const, Nat.reduceEqDiff, Nat.reduceAdd, Nat.reduceSub, Nat.reduceMul, Nat.reduceLT, Nat.reduceLeDiff, Nat.reduceBEq, Nat.reduceDiv, Nat.reduceMod, Int.reduceToNat, Int.reduceNeg, Int.reduceAdd, Int.reduceSub, Int.reduceMul, Int.reduceEq, Int.reduceNe, Int.reduceLT, Int.reduceLE, Int.reduceGT, Int.reduceGE]
  refine condI_intro (fun hb1 => ?_) (fun hb1 => ?_)
  · simp -implicitDefEqProofs (maxSteps := 1000000) (disch := omega) only [↓xsP, ↓vc_seq, xsQ, xsT, xsR, xsD, ↓reduceIte, reduceCtorEq, eq_self, ne_eq, imp_self, forall_const, Nat.reduceEqDiff, Nat.reduceAdd, Nat.reduceSub, Nat.reduceMul, Nat.reduceLT, Nat.reduceLeDiff, Nat.reduceBEq, Nat.reduceDiv, Nat.reduceMod, Int.reduceToNat, Int.reduceNeg, Int.reduceAdd, Int.reduceSub, Int.reduceMul, Int.reduceEq, Int.reduceNe, Int.reduceLT, Int.reduceLE, Int.reduceGT, Int.reduceGE]
    have hb2 : bo = false := by simpa using hb1
    obtain ⟨-, hd⟩ := hf hb2
    exact finI_of (XFin.wk (XFin.le hle6 ⟨rfl, [], false, 0, .none hask hd, rfl⟩))
  · have hb2 : bo = true := by simpa using hb1
    obtain ⟨l, hl, hL6⟩ := ht hb2
    simp -implicitDefEqProofs (maxSteps := 1000000) (disch := omega) only [↓xsP, ↓vc_seq, xsQ, xsT, xsR, xsD, ↓reduceIte, reduceCtorEq, eq_self, ne_eq, imp_self, forall_const, Nat.reduceEqDiff, Nat.reduceAdd, Nat.reduceSub, Nat.reduceMul, Nat.reduceLT, Nat.reduceLeDiff, Nat.reduceBEq, Nat.reduceDiv, Nat.reduceMod, Int.reduceToNat, Int.reduceNeg, Int.reduceAdd, Int.reduceSub, Int.reduceMul, Int.reduceEq, Int.reduceNe, Int.reduceLT, Int.reduceLE, Int.reduceGT, Int.reduceGE, hown6]
    rw [List.nil_append] at hL6
    have hF : Found b h (ixs l) true 0 := .some hask hl
    rcases I6.ord with ⟨h1, rfl⟩ | ⟨i6, r6, a1, rfl, a3, a4, a5⟩
    · refine finI_of (XFin.wk (XFin.le hle6 ⟨rfl, ixs l, true, 0, hF, ?_⟩))
      rw [ixs, ← hL6, h1]
      rfl
    · refine finI_of (XFin.frz i6 a3 (XFin.le (fun k bk hk => ?_) ⟨rfl, ixs l, true, 0, hF, ?_⟩))
      · rw [Mem.set_ne _ _ _ _ (fun e => ?_)]
        · exact hle6 _ _ hk
        · rw [← e] at hk
          have := le_new (Mem.le_refl _) hidpM (b := mapB (putL b)) _ _ hk
          rw [a1] at this
          cases this
      · rw [hL6] at a4 a5
        simp only [frzA, List.map_cons, List.map_nil, frz1, frzL, Nat.zero_add, hL6]
        rw [if_pos ⟨trivial, a4⟩, List.drop_zero, a5]
        rfl
theorem lany_spec (b : List Pr) (h : List Evt) (hb : b.length ≤ 1000) (hbo : AllOk b) (hs : Small h) (hho : OpsOk (callsP h)) (M : Mem) :
    XCalls Go.Proofs.Tryd.prog 10 [.l (.sl (b.map Pr.row)), .l (.sl (h.map Evt.row))] M fun r M' => M' = M ∧ ∃ l ok e, Found b h l ok e ∧ r = .l (.bool ok) := by
  refine xcalls_intro (rs := [.tmp 4]) Go.Proofs.Tryd.func10 rfl (by kernel_rfl) rfl rfl (by kernel_rfl) (by simp) ?_
  simp -implicitDefEqProofs (maxSteps := 1000000) (disch := omega) only [↓xsP, ↓vc_seq, xsQ, xsT, xsR, xsD, ↓reduceIte, reduceCtorEq, eq_self, ne_eq, imp_self, forall_const, Nat.reduceEqDiff, Nat.reduceAdd, Nat.reduceSub, Nat.reduceMul, Nat.reduceLT, Nat.reduceLeDiff, Nat.reduceBEq, Nat.reduceDiv, Nat.reduceMod, Int.reduceToNat, Int.reduceNeg, Int.reduceAdd, Int.reduceSub, Int.reduceMul, Int.reduceEq, Int.reduceNe, Int.reduceLT, Int.reduceLE, Int.reduceGT, Int.reduceGE]
  refine callI_of ((lfind_spec b h hb hbo hs hho _).mono ?_)
  rintro _ _ ⟨rfl, l, ok, e, hF, rfl⟩
  simp -implicitDefEqProofs (maxSteps := 1000000) (disch := omega) only [↓xsP, ↓vc_seq, xsQ, xsT, xsR, xsD, ↓reduceIte, reduceCtorEq, eq_self, ne_eq, imp_self, forall_const, Nat.reduceEqDiff, Nat.reduceAdd, Nat.reduceSub, Nat.reduceMul, Nat.reduceLT, Nat.reduceLeDiff, Nat.reduceBEq, Nat.reduceDiv, Nat.reduceMod, Int.reduceToNat, Int.reduceNeg, Int.reduceAdd, Int.reduceSub, Int.reduceMul, Int.reduceEq, Int.reduceNe, Int.reduceLT, Int.reduceLE, Int.reduceGT, Int.reduceGE]
  exact fin_ok (Mem.le_refl _) ⟨rfl, l, ok, e, hF, rfl⟩
end Go.X
set_option linter.unusedVariables false
set_option linter.unusedSimpArgs false
set_option maxHeartbeats 20000000
set_option maxRecDepth 100000
namespace Go.X
open Go.Proofs.Tryd (prog)

theorem bit_dec1 {d i : Nat} (hd : d < 65536) (hi : i ≤ 16) : decide (bitsA .and .i64 ((d : Int).fdiv (2 ^ min i IntKind.i64.bits)) 1 = 1) = d.testBit i := by
  rw [shr_nat d i hi, and_one' _ (Nat.le_trans (Nat.div_le_self _ _) (by omega)), Nat.testBit_eq_decide_div_mod_eq]
  rcases Nat.mod_two_eq_zero_or_one (d / 2 ^ i) with h | h
  · rw [h]; rfl
  · rw [h]; rfl
theorem bit_decU {d i : Nat} (hd : d < 65536) (hi : i ≤ 16) : decide (bitsA .and .i64 ((d : Int).fdiv (2 ^ min i 64)) 1 = 0) = !d.testBit i := bit_dec hd hi
theorem bit_decU1 {d i : Nat} (hd : d < 65536) (hi : i ≤ 16) : decide (bitsA .and .i64 ((d : Int).fdiv (2 ^ min i 64)) 1 = 1) = d.testBit i := bit_dec1 hd hi
theorem refB_iff (c : Cl) : refB c = bof (neverC c) := by
  rw [refB]
  by_cases h1 : 0 ≤ c.fin
  · by_cases h2 : c.ans.err = 0
    · rw [decide_eq_true h1, decide_eq_true h2, bof_false fun h => h.2 h2]; rfl
    · rw [decide_eq_true h1, decide_eq_false h2, bof_true ⟨h1, h2⟩]; rfl
  · rw [decide_eq_false h1, bof_false fun h => h1 h.1]; rfl
theorem wrapu (i : Nat) (h : i ≤ 1000) : IntKind.u64.wrap (i : Int) = (i : Int) := by
  rw [IntKind.wrap_u64]
  omega
theorem or_powU (d i : Nat) (hd : d < 65536) (hi : i < 16) : bitsA .or .i64 (d : Int) (IntKind.i64.wrap (1 * 2 ^ min i 64)) = ((d ||| 2 ^ i : Nat) : Int) := or_pow d i hd hi
def leftP (C : List Cl) (d i : Nat) : Prop := ∃ j, j < i ∧ d.testBit j = false ∧ mustC (C.getD j default)
theorem leftP_succ (C : List Cl) (d i : Nat) : leftP C d (i + 1) ↔ leftP C d i ∨ (d.testBit i = false ∧ mustC (C.getD i default)) := by
  constructor
  · rintro ⟨j, h1, h2, h3⟩
    by_cases e : j = i
    · exact .inr (e ▸ ⟨h2, h3⟩)
    · exact .inl ⟨j, by omega, h2, h3⟩
  · rintro (⟨j, h1, h2, h3⟩ | ⟨h2, h3⟩)
    · exact ⟨j, by omega, h2, h3⟩
    · exact ⟨i, by omega, h2, h3⟩
def canP (C : List Cl) (d i j : Nat) : Prop := ∀ a, a < j → d.testBit a = true ∨ neverC (C.getD a default) ∨ ¬ befP (C.getD a default) (C.getD i default)
theorem canP_succ (C : List Cl) (d i j : Nat) : canP C d i (j + 1) ↔ canP C d i j ∧ (d.testBit j = true ∨ neverC (C.getD j default) ∨ ¬ befP (C.getD j default) (C.getD i default)) := by
  constructor
  · exact fun h => ⟨fun a ha => h a (by omega), h j (by omega)⟩
  · rintro ⟨h1, h2⟩ a ha
    by_cases e : a = j
    · exact e ▸ h2
    · exact h1 a (by omega)
theorem canP_iff (C : List Cl) (d i : Nat) : canP C d i C.length ↔ ∀ a, a < C.length → d.testBit a = false → mustC (C.getD a default) → ¬ befP (C.getD a default) (C.getD i default) := by
  constructor
  · intro h a ha hb hm
    rcases h a ha with h | h | h
    · rw [hb] at h; cases h
    · exact absurd hm.2 h.2
    · exact h
  · intro h a ha
    cases hb : d.testBit a with
    | true => exact .inl rfl
    | false =>
      by_cases hn : neverC (C.getD a default)
      · exact .inr (.inl hn)
      · refine .inr (.inr fun hbf => h a ha hb ⟨hbf.1, ?_⟩ hbf)
        by_cases e : (C.getD a default).ans.err = 0
        · exact e
        · exact absurd ⟨hbf.1, e⟩ hn
theorem add_txt {P : Program} {t : TypeId} {x y : Operand} {a b : List UInt8} {K : AV → Prop} (hl : a.length + b.length ≤ 9223372036854775807) (h : K (.l (txt (a ++ b)))) : @binI P .add t x y (.l (txt a)) (.l (txt b)) ⟨K⟩ := by
  show binK P .add t x y (.l (txt a)) (.l (txt b)) K
  unfold binK txt
  simp only
  refine ⟨?_, ?_⟩
  · simpa [ByteArray.size] using hl
  · have e : (⟨a.toArray⟩ ++ ⟨b.toArray⟩ : ByteArray) = ⟨(a ++ b).toArray⟩ := by
      apply ByteArray.ext
      simp
    rw [e]
    exact h
theorem sTxt_app (c1 c2 : UInt8) (a b : List Pr) : sTxt c1 c2 (a ++ b) = sTxt c1 c2 a ++ sTxt c1 c2 b := by simp [sTxt]
theorem sTxt_len {c1 c2 : UInt8} : ∀ {s : List Pr}, AllOk s → (sTxt c1 c2 s).length ≤ 50 * s.length
  | [], _ => by simp [sTxt]
  | p :: s, h => by
    have ih := sTxt_len (c1 := c1) (c2 := c2) (s := s) fun x hx => h x (by simp [hx])
    have hp := h p (by simp)
    have h1 := Lib.itoa_length_le p.key hp.1.1 hp.1.2
    have h2 := Lib.itoa_length_le p.val hp.2.1 hp.2.2
    rw [sTxt] at ih ⊢
    rw [List.flatMap_cons, List.length_append, List.length_cons]
    simp only [List.length_append, List.length_cons]
    omega
def r8Row (C : List Cl) (idm : Nat) : List Lf := [.sl (C.map Cl.row), .mp idm, .int .i64 0]
def rKey (d : Nat) (s : List Pr) : List UInt8 := Lib.itoa d ++ sTxt 44 58 s
theorem rKey_inj {d e : Nat} {s t : List Pr} (h : rKey d s = rKey e t) : d = e ∧ s = t := by
  obtain ⟨h1, h2⟩ := dsTxt_inj (c1 := 44) (c2 := 58) (by decide) (by decide) h
  exact ⟨by omega, h2⟩
def DeadK (C : List Cl) (k : List UInt8) : Prop := ∃ (d : Nat) (s : List Pr), k = rKey d s ∧ Dead C d s
def KInv (C : List Cl) (ks : List (List UInt8)) (d : Nat) : Prop := ∀ k ∈ ks, DeadK C k ∨ ∃ (d' : Nat) (s : List Pr), k = rKey d' s ∧ d' < d
theorem rgo1_spec (C : List Cl) (hC : C.length ≤ 16) (hCo : OpsOk C) : ∀ (n d : Nat), 65536 - d ≤ n → d < 65536 → ∀ (s : List Pr), AllOk s → s.length ≤ 1000 + d → ∀ (cnt : Int) (B M : Mem) (ids idm : Nat) (ks : List (List UInt8)), KInv C ks d → B.le M → B idm = none → M idm = some (.map (ks.map sent)) → B ids = some (.cells 70 [r8Row C idm] 0) →
    XCalls Go.Proofs.Tryd.prog 31 [.l (.ptr ids 0 0), .l (.sl (s.map Pr.row)), .l (.int .i64 d), .l (.int .i64 cnt)] M fun r M' => ∃ (b : Bool) (ks' : List (List UInt8)), r = .l (.bool b) ∧ B.le M' ∧ M' idm = some (.map (ks'.map sent)) ∧ (b = true → ∃ l, Comp C d s l) ∧ (b = false → Dead C d s ∧ ∀ k ∈ ks', k ∈ ks ∨ DeadK C k) := by
  intro n
  induction n with
  | zero => intro d h1 h2; omega
  | succ n ih =>
  intro d hn hd s hs hsl cnt B M ids idm ks hks hBM hBm hMm hBs
  rw [r8Row] at hBs
  have hMs := hBM _ _ hBs
  refine xcalls_intro (rs := [.tmp 8]) Go.Proofs.Tryd.func31 rfl (by kernel_rfl) rfl rfl (by kernel_rfl) (by simp) ?_
  simp -implicitDefEqProofs (maxSteps := 1000000) (disch := omega) only [↓xsP, ↓vc_seq, xsQ, xsT, xsR, xsD, ↓reduceIte, reduceCtorEq, eq_self, ne_eq, imp_self, forall_const, Nat.reduceEqDiff, Nat.reduceAdd, Nat.reduceSub, Nat.reduceMul, Nat.reduceLT, Nat.reduceLeDiff, Nat.reduceBEq, Nat.reduceDiv, Nat.reduceMod, Int.reduceToNat, Int.reduceNeg, Int.reduceAdd, Int.reduceSub, Int.reduceMul, Int.reduceEq, Int.reduceNe, Int.reduceLT, Int.reduceLE, Int.reduceGT, Int.reduceGE, hMs]
  refine loopI_of (xloop (by kernel_rfl) (fun k fr M2 => ∃ i : Nat, i ≤ C.length ∧ k = C.length - i ∧ fr 0 = .l (.ptr ids 0 0) ∧ fr 1 = .l (.sl (s.map Pr.row)) ∧ fr 2 = .l (.int .i64 d) ∧ fr 3 = .l (.int .i64 cnt) ∧ fr 9 = .l (.bool (bof (leftP C d i))) ∧ fr 25 = .l (.sl (C.map Cl.row)) ∧ fr 26 = .l (.int .i64 C.length) ∧ fr 27 = .l (.int .i64 i) ∧ M2 = M) C.length ?_ ?_)
  · refine ⟨0, Nat.zero_le _, rfl, by simp -implicitDefEqProofs (maxSteps := 1000000) (disch := omega) only [↓xsP, ↓vc_seq, xsQ, xsT, xsR, xsD, ↓reduceIte, reduceCtorEq, eq_self, ne_eq, imp_self, forall_const, Nat.reduceEqDiff, Nat.reduceAdd, Nat.reduceSub, Nat.reduceMul, Nat.reduceLT, Nat.reduceLeDiff, Nat.reduceBEq, Nat.reduceDiv, Nat.reduceMod, Int.reduceToNat, Int.reduceNeg, Int.reduceAdd, Int.reduceSub, Int.reduceMul, Int.reduceEq, Int.reduceNe, Int.reduceLT, Int.reduceLE, Int.reduceGT, Int.reduceGE], by simp -implicitDefEqProofs (maxSteps := 1000000) (disch := omega) only [↓xsP, ↓vc_seq, xsQ, xsT, xsR, xsD, ↓reduceIte, reduceCtorEq, eq_self, ne_eq, imp_self, forall_const, Nat.reduceEqDiff, Nat.reduceAdd, Nat.reduceSub, Nat.reduceMul, Nat.reduceLT, Nat.reduceLeDiff, Nat.reduceBEq, Nat.reduceDiv, Nat.reduceMod, Int.reduceToNat, Int.reduceNeg, Int.reduceAdd, Int.reduceSub, Int.reduceMul, Int.reduceEq, Int.reduceNe, Int.reduceLT, Int.reduceLE, Int.reduceGT, Int.reduceGE], by simp -implicitDefEqProofs (maxSteps := 1000000) (disch := omega) only [↓xsP, ↓vc_seq, xsQ, xsT, xsR, xsD, ↓reduceIte, reduceCtorEq, eq_self, ne_eq, imp_self, forall_const, Nat.reduceEqDiff, Nat.reduceAdd, Nat.reduceSub, Nat.reduceMul, Nat.reduceLT, Nat.reduceLeDiff, Nat.reduceBEq, Nat.reduceDiv, Nat.reduceMod, Int.reduceToNat, Int.reduceNeg, Int.reduceAdd, Int.reduceSub, Int.reduceMul, Int.reduceEq, Int.reduceNe, Int.reduceLT, Int.reduceLE, Int.reduceGT, Int.reduceGE], by simp -implicitDefEqProofs (maxSteps := 1000000) (disch := omega) only [↓xsP, ↓vc_seq, xsQ, xsT, xsR, xsD, ↓reduceIte, reduceCtorEq, eq_self, ne_eq, imp_self, forall_const, Nat.reduceEqDiff, Nat.reduceAdd, Nat.reduceSub, Nat.reduceMul, Nat.reduceLT, Nat.reduceLeDiff, Nat.reduceBEq, Nat.reduceDiv, Nat.reduceMod, Int.reduceToNat, Int.reduceNeg, Int.reduceAdd, Int.reduceSub, Int.reduceMul, Int.reduceEq, Int.reduceNe, Int.reduceLT, Int.reduceLE, Int.reduceGT, Int.reduceGE], ?_, by simp -implicitDefEqProofs (maxSteps := 1000000) (disch := omega) only [↓xsP, ↓vc_seq, xsQ, xsT, xsR, xsD, ↓reduceIte, reduceCtorEq, eq_self, ne_eq, imp_self, forall_const, Nat.reduceEqDiff, Nat.reduceAdd, Nat.reduceSub, Nat.reduceMul, Nat.reduceLT, Nat.reduceLeDiff, Nat.reduceBEq, Nat.reduceDiv, Nat.reduceMod, Int.reduceToNat, Int.reduceNeg, Int.reduceAdd, Int.reduceSub, Int.reduceMul, Int.reduceEq, Int.reduceNe, Int.reduceLT, Int.reduceLE, Int.reduceGT, Int.reduceGE], by simp -implicitDefEqProofs (maxSteps := 1000000) (disch := omega) only [↓xsP, ↓vc_seq, xsQ, xsT, xsR, xsD, ↓reduceIte, reduceCtorEq, eq_self, ne_eq, imp_self, forall_const, Nat.reduceEqDiff, Nat.reduceAdd, Nat.reduceSub, Nat.reduceMul, Nat.reduceLT, Nat.reduceLeDiff, Nat.reduceBEq, Nat.reduceDiv, Nat.reduceMod, Int.reduceToNat, Int.reduceNeg, Int.reduceAdd, Int.reduceSub, Int.reduceMul, Int.reduceEq, Int.reduceNe, Int.reduceLT, Int.reduceLE, Int.reduceGT, Int.reduceGE], by simp -implicitDefEqProofs (maxSteps := 1000000) (disch := omega) only [↓xsP, ↓vc_seq, xsQ, xsT, xsR, xsD, ↓reduceIte, reduceCtorEq, eq_self, ne_eq, imp_self, forall_const, Nat.reduceEqDiff, Nat.reduceAdd, Nat.reduceSub, Nat.reduceMul, Nat.reduceLT, Nat.reduceLeDiff, Nat.reduceBEq, Nat.reduceDiv, Nat.reduceMod, Int.reduceToNat, Int.reduceNeg, Int.reduceAdd, Int.reduceSub, Int.reduceMul, Int.reduceEq, Int.reduceNe, Int.reduceLT, Int.reduceLE, Int.reduceGT, Int.reduceGE, Int.cast_ofNat_Int], rfl⟩
    rw [bof_false (by rintro ⟨j, h, -⟩; omega)]
    simp -implicitDefEqProofs (maxSteps := 1000000) (disch := omega) only [↓xsP, ↓vc_seq, xsQ, xsT, xsR, xsD, ↓reduceIte, reduceCtorEq, eq_self, ne_eq, imp_self, forall_const, Nat.reduceEqDiff, Nat.reduceAdd, Nat.reduceSub, Nat.reduceMul, Nat.reduceLT, Nat.reduceLeDiff, Nat.reduceBEq, Nat.reduceDiv, Nat.reduceMod, Int.reduceToNat, Int.reduceNeg, Int.reduceAdd, Int.reduceSub, Int.reduceMul, Int.reduceEq, Int.reduceNe, Int.reduceLT, Int.reduceLE, Int.reduceGT, Int.reduceGE]
  · rintro k fr M2 ⟨i, hi, rfl, f0, f1, f2, f3, f9, f25, f26, f27, rfl⟩
    simp -implicitDefEqProofs (maxSteps := 1000000) (disch := omega) only [↓xsP, ↓vc_seq, xsQ, xsT, xsR, xsD, ↓reduceIte, reduceCtorEq, eq_self, ne_eq, imp_self, forall_const, Nat.reduceEqDiff, Nat.reduceAdd, Nat.reduceSub, Nat.reduceMul, Nat.reduceLT, Nat.reduceLeDiff, Nat.reduceBEq, Nat.reduceDiv, Nat.reduceMod, Int.reduceToNat, Int.reduceNeg, Int.reduceAdd, Int.reduceSub, Int.reduceMul, Int.reduceEq, Int.reduceNe, Int.reduceLT, Int.reduceLE, Int.reduceGT, Int.reduceGE, f0, f1, f2, f3, f9, f25, f26, f27]
    refine condI_prop (fun hlt => ?_) (fun hlt => ?_)
    · have hil : i < C.length := by omega
      obtain ⟨c, hc⟩ : ∃ c, C.getD i default = c := ⟨_, rfl⟩
      have hnx : ∀ (b : Bool), b = bof (leftP C d i ∨ (d.testBit i = false ∧ mustC c)) → b = bof (leftP C d (i + 1)) := fun b hb => by
        have := leftP_succ C d i
        rw [hc] at this
        rw [hb, bof_congr this]
      simp -implicitDefEqProofs (maxSteps := 1000000) (disch := omega) only [↓xsP, ↓vc_seq, xsQ, xsT, xsR, xsD, ↓reduceIte, reduceCtorEq, eq_self, ne_eq, imp_self, forall_const, Nat.reduceEqDiff, Nat.reduceAdd, Nat.reduceSub, Nat.reduceMul, Nat.reduceLT, Nat.reduceLeDiff, Nat.reduceBEq, Nat.reduceDiv, Nat.reduceMod, Int.reduceToNat, Int.reduceNeg, Int.reduceAdd, Int.reduceSub, Int.reduceMul, Int.reduceEq, Int.reduceNe, Int.reduceLT, Int.reduceLE, Int.reduceGT, Int.reduceGE, f0, f1, f2, f3, f9, f25, f26, f27, hc]
      refine newI_intro fun id11 hid11 => ?_
      have hl11 : ∀ X : Blk, M2.le (M2.set id11 X) := fun X => le_new (Mem.le_refl _) hid11
      obtain ⟨lf, hlf⟩ : ∃ lf, bof (leftP C d i) = lf := ⟨_, rfl⟩
      rw [hlf] at f9
      have hend : ∀ (X : Blk) (b : Bool), b = bof (leftP C d i ∨ (d.testBit i = false ∧ mustC c)) → b = bof (leftP C d (i + 1)) ∧ M2.le (M2.set id11 X) := fun X b hb => ⟨hnx b hb, hl11 X⟩
      simp -implicitDefEqProofs (maxSteps := 1000000) (disch := omega) only [↓xsP, ↓vc_seq, xsQ, xsT, xsR, xsD, ↓reduceIte, reduceCtorEq, eq_self, ne_eq, imp_self, forall_const, Nat.reduceEqDiff, Nat.reduceAdd, Nat.reduceSub, Nat.reduceMul, Nat.reduceLT, Nat.reduceLeDiff, Nat.reduceBEq, Nat.reduceDiv, Nat.reduceMod, Int.reduceToNat, Int.reduceNeg, Int.reduceAdd, Int.reduceSub, Int.reduceMul, Int.reduceEq, Int.reduceNe, Int.reduceLT, Int.reduceLE, Int.reduceGT, Int.reduceGE, f0, f1, f2, f3, f9, f25, f26, f27, hc]
      cases lf with
      | true =>
        simp -implicitDefEqProofs (maxSteps := 1000000) (disch := omega) only [↓xsP, ↓vc_seq, xsQ, xsT, xsR, xsD, ↓reduceIte, reduceCtorEq, eq_self, ne_eq, imp_self, forall_const, Nat.reduceEqDiff, Nat.reduceAdd, Nat.reduceSub, Nat.reduceMul, Nat.reduceLT, Nat.reduceLeDiff, Nat.reduceBEq, Nat.reduceDiv, Nat.reduceMod, Int.reduceToNat, Int.reduceNeg, Int.reduceAdd, Int.reduceSub, Int.reduceMul, Int.reduceEq, Int.reduceNe, Int.reduceLT, Int.reduceLE, Int.reduceGT, Int.reduceGE, f0, f1, f2, f3, f9, f25, f26, f27, hc]
        exact ⟨C.length - (i + 1), M2, by omega, hl11 _, i + 1, by omega, rfl, by rw [← hnx true (bof_true (.inl (bof_iff.1 hlf))).symm], by simp, rfl⟩
      | false =>
        have hl0 : ¬ leftP C d i := bof_not.1 hlf
        have wu := wrapu i (by omega)
        simp -implicitDefEqProofs (maxSteps := 1000000) (disch := omega) only [↓xsP, ↓vc_seq, xsQ, xsT, xsR, xsD, ↓reduceIte, reduceCtorEq, eq_self, ne_eq, imp_self, forall_const, Nat.reduceEqDiff, Nat.reduceAdd, Nat.reduceSub, Nat.reduceMul, Nat.reduceLT, Nat.reduceLeDiff, Nat.reduceBEq, Nat.reduceDiv, Nat.reduceMod, Int.reduceToNat, Int.reduceNeg, Int.reduceAdd, Int.reduceSub, Int.reduceMul, Int.reduceEq, Int.reduceNe, Int.reduceLT, Int.reduceLE, Int.reduceGT, Int.reduceGE, f0, f1, f2, f3, f9, f25, f26, f27, hc, wu]
        rw [bit_decU hd (show i ≤ 16 by omega)]
        refine gI_t (fun hb => ?_) (fun hb => ?_)
        · have hb' : d.testBit i = false := by simpa using hb
          simp -implicitDefEqProofs (maxSteps := 1000000) (disch := omega) only [↓xsP, ↓vc_seq, xsQ, xsT, xsR, xsD, ↓reduceIte, reduceCtorEq, eq_self, ne_eq, imp_self, forall_const, Nat.reduceEqDiff, Nat.reduceAdd, Nat.reduceSub, Nat.reduceMul, Nat.reduceLT, Nat.reduceLeDiff, Nat.reduceBEq, Nat.reduceDiv, Nat.reduceMod, Int.reduceToNat, Int.reduceNeg, Int.reduceAdd, Int.reduceSub, Int.reduceMul, Int.reduceEq, Int.reduceNe, Int.reduceLT, Int.reduceLE, Int.reduceGT, Int.reduceGE, f0, f1, f2, f3, f9, f25, f26, f27, hc, hb]
          refine gI_prop (fun hf => ?_) (fun hf => ?_)
          · simp -implicitDefEqProofs (maxSteps := 1000000) (disch := omega) only [↓xsP, ↓vc_seq, xsQ, xsT, xsR, xsD, ↓reduceIte, reduceCtorEq, eq_self, ne_eq, imp_self, forall_const, Nat.reduceEqDiff, Nat.reduceAdd, Nat.reduceSub, Nat.reduceMul, Nat.reduceLT, Nat.reduceLeDiff, Nat.reduceBEq, Nat.reduceDiv, Nat.reduceMod, Int.reduceToNat, Int.reduceNeg, Int.reduceAdd, Int.reduceSub, Int.reduceMul, Int.reduceEq, Int.reduceNe, Int.reduceLT, Int.reduceLE, Int.reduceGT, Int.reduceGE, f0, f1, f2, f3, f9, f25, f26, f27, hc, hb, hf]
            refine call_of (refused_spec c _) ?_
            rw [refB_iff]
            simp -implicitDefEqProofs (maxSteps := 1000000) (disch := omega) only [↓xsP, ↓vc_seq, xsQ, xsT, xsR, xsD, ↓reduceIte, reduceCtorEq, eq_self, ne_eq, imp_self, forall_const, Nat.reduceEqDiff, Nat.reduceAdd, Nat.reduceSub, Nat.reduceMul, Nat.reduceLT, Nat.reduceLeDiff, Nat.reduceBEq, Nat.reduceDiv, Nat.reduceMod, Int.reduceToNat, Int.reduceNeg, Int.reduceAdd, Int.reduceSub, Int.reduceMul, Int.reduceEq, Int.reduceNe, Int.reduceLT, Int.reduceLE, Int.reduceGT, Int.reduceGE, f0, f1, f2, f3, f9, f25, f26, f27, hc, hb, hf]
            refine ⟨C.length - (i + 1), M2, by omega, hl11 _, i + 1, by omega, rfl, ?_, by simp, rfl⟩
            rw [← hnx (!bof (neverC c)) ?_]
            cases hn : bof (neverC c) with
            | true => exact (bof_false (by rintro (h | h); exact hl0 h; exact (bof_iff.1 hn).2 h.2.2)).symm
            | false =>
              refine (bof_true (.inr ⟨hb', hf, ?_⟩)).symm
              by_cases e : c.ans.err = 0
              · exact e
              · exact absurd ⟨hf, e⟩ (bof_not.1 hn)
          · simp -implicitDefEqProofs (maxSteps := 1000000) (disch := omega) only [↓xsP, ↓vc_seq, xsQ, xsT, xsR, xsD, ↓reduceIte, reduceCtorEq, eq_self, ne_eq, imp_self, forall_const, Nat.reduceEqDiff, Nat.reduceAdd, Nat.reduceSub, Nat.reduceMul, Nat.reduceLT, Nat.reduceLeDiff, Nat.reduceBEq, Nat.reduceDiv, Nat.reduceMod, Int.reduceToNat, Int.reduceNeg, Int.reduceAdd, Int.reduceSub, Int.reduceMul, Int.reduceEq, Int.reduceNe, Int.reduceLT, Int.reduceLE, Int.reduceGT, Int.reduceGE, f0, f1, f2, f3, f9, f25, f26, f27, hc, hb, hf]
            exact ⟨C.length - (i + 1), M2, by omega, hl11 _, i + 1, by omega, rfl, by rw [← hnx false (bof_false (by rintro (h | h); exact hl0 h; exact hf h.2.1)).symm], by simp, rfl⟩
        · have hb' : d.testBit i = true := by simpa using hb
          simp -implicitDefEqProofs (maxSteps := 1000000) (disch := omega) only [↓xsP, ↓vc_seq, xsQ, xsT, xsR, xsD, ↓reduceIte, reduceCtorEq, eq_self, ne_eq, imp_self, forall_const, Nat.reduceEqDiff, Nat.reduceAdd, Nat.reduceSub, Nat.reduceMul, Nat.reduceLT, Nat.reduceLeDiff, Nat.reduceBEq, Nat.reduceDiv, Nat.reduceMod, Int.reduceToNat, Int.reduceNeg, Int.reduceAdd, Int.reduceSub, Int.reduceMul, Int.reduceEq, Int.reduceNe, Int.reduceLT, Int.reduceLE, Int.reduceGT, Int.reduceGE, f0, f1, f2, f3, f9, f25, f26, f27, hc, hb]
          exact ⟨C.length - (i + 1), M2, by omega, hl11 _, i + 1, by omega, rfl, by rw [← hnx false (bof_false (by rintro (h | h); exact hl0 h; rw [hb'] at h; cases h.1)).symm], by simp, rfl⟩
    · have hil : i = C.length := by omega
      subst hil
      simp -implicitDefEqProofs (maxSteps := 1000000) (disch := omega) only [↓xsP, ↓vc_seq, xsQ, xsT, xsR, xsD, ↓reduceIte, reduceCtorEq, eq_self, ne_eq, imp_self, forall_const, Nat.reduceEqDiff, Nat.reduceAdd, Nat.reduceSub, Nat.reduceMul, Nat.reduceLT, Nat.reduceLeDiff, Nat.reduceBEq, Nat.reduceDiv, Nat.reduceMod, Int.reduceToNat, Int.reduceNeg, Int.reduceAdd, Int.reduceSub, Int.reduceMul, Int.reduceEq, Int.reduceNe, Int.reduceLT, Int.reduceLE, Int.reduceGT, Int.reduceGE, f0, f1, f2, f3, f9, f25, f26, f27]
      refine condI_intro (fun hb => ?_) (fun hb => ?_)
      · simp -implicitDefEqProofs (maxSteps := 1000000) (disch := omega) only [↓xsP, ↓vc_seq, xsQ, xsT, xsR, xsD, ↓reduceIte, reduceCtorEq, eq_self, ne_eq, imp_self, forall_const, Nat.reduceEqDiff, Nat.reduceAdd, Nat.reduceSub, Nat.reduceMul, Nat.reduceLT, Nat.reduceLeDiff, Nat.reduceBEq, Nat.reduceDiv, Nat.reduceMod, Int.reduceToNat, Int.reduceNeg, Int.reduceAdd, Int.reduceSub, Int.reduceMul, Int.reduceEq, Int.reduceNe, Int.reduceLT, Int.reduceLE, Int.reduceGT, Int.reduceGE]
        have hd0 : ¬ dueP C d := bof_not.1 (show bof (leftP C d C.length) = false by simpa using hb)
        exact fin_ok (Mem.le_refl _) ⟨true, ks, rfl, hBM, hMm, fun _ => ⟨[], .nil hd0⟩, fun h => absurd h (by decide)⟩
      have hdue : dueP C d := bof_iff.1 (show bof (leftP C d C.length) = true by simpa using hb)
      simp -implicitDefEqProofs (maxSteps := 1000000) (disch := omega) only [↓xsP, ↓vc_seq, xsQ, xsT, xsR, xsD, ↓reduceIte, reduceCtorEq, eq_self, ne_eq, imp_self, forall_const, Nat.reduceEqDiff, Nat.reduceAdd, Nat.reduceSub, Nat.reduceMul, Nat.reduceLT, Nat.reduceLeDiff, Nat.reduceBEq, Nat.reduceDiv, Nat.reduceMod, Int.reduceToNat, Int.reduceNeg, Int.reduceAdd, Int.reduceSub, Int.reduceMul, Int.reduceEq, Int.reduceNe, Int.reduceLT, Int.reduceLE, Int.reduceGT, Int.reduceGE, f0, f1, f2, f3, f25, f26, f27]
      refine call_of (itoa_spec d (by omega) (by omega) _) ?_
      simp -implicitDefEqProofs (maxSteps := 1000000) (disch := omega) only [↓xsP, ↓vc_seq, xsQ, xsT, xsR, xsD, ↓reduceIte, reduceCtorEq, eq_self, ne_eq, imp_self, forall_const, Nat.reduceEqDiff, Nat.reduceAdd, Nat.reduceSub, Nat.reduceMul, Nat.reduceLT, Nat.reduceLeDiff, Nat.reduceBEq, Nat.reduceDiv, Nat.reduceMod, Int.reduceToNat, Int.reduceNeg, Int.reduceAdd, Int.reduceSub, Int.reduceMul, Int.reduceEq, Int.reduceNe, Int.reduceLT, Int.reduceLE, Int.reduceGT, Int.reduceGE, f0, f1, f2, f3, f25, f26, f27]
      refine loopI_of (xloop (by kernel_rfl) (fun k fr M3 => ∃ j : Nat, j ≤ s.length ∧ k = s.length - j ∧ fr 0 = .l (.ptr ids 0 0) ∧ fr 1 = .l (.sl (s.map Pr.row)) ∧ fr 2 = .l (.int .i64 d) ∧ fr 3 = .l (.int .i64 cnt) ∧ fr 12 = .l (txt (Lib.itoa d ++ sTxt 44 58 (s.take j))) ∧ fr 56 = .l (.sl (s.map Pr.row)) ∧ fr 57 = .l (.int .i64 s.length) ∧ fr 58 = .l (.int .i64 j) ∧ M3 = M2) s.length ?_ ?_)
      · exact ⟨0, Nat.zero_le _, rfl, by simp -implicitDefEqProofs (maxSteps := 1000000) (disch := omega) only [↓xsP, ↓vc_seq, xsQ, xsT, xsR, xsD, ↓reduceIte, reduceCtorEq, eq_self, ne_eq, imp_self, forall_const, Nat.reduceEqDiff, Nat.reduceAdd, Nat.reduceSub, Nat.reduceMul, Nat.reduceLT, Nat.reduceLeDiff, Nat.reduceBEq, Nat.reduceDiv, Nat.reduceMod, Int.reduceToNat, Int.reduceNeg, Int.reduceAdd, Int.reduceSub, Int.reduceMul, Int.reduceEq, Int.reduceNe, Int.reduceLT, Int.reduceLE, Int.reduceGT, Int.reduceGE, f0], by simp -implicitDefEqProofs (maxSteps := 1000000) (disch := omega) only [↓xsP, ↓vc_seq, xsQ, xsT, xsR, xsD, ↓reduceIte, reduceCtorEq, eq_self, ne_eq, imp_self, forall_const, Nat.reduceEqDiff, Nat.reduceAdd, Nat.reduceSub, Nat.reduceMul, Nat.reduceLT, Nat.reduceLeDiff, Nat.reduceBEq, Nat.reduceDiv, Nat.reduceMod, Int.reduceToNat, Int.reduceNeg, Int.reduceAdd, Int.reduceSub, Int.reduceMul, Int.reduceEq, Int.reduceNe, Int.reduceLT, Int.reduceLE, Int.reduceGT, Int.reduceGE, f1], by simp -implicitDefEqProofs (maxSteps := 1000000) (disch := omega) only [↓xsP, ↓vc_seq, xsQ, xsT, xsR, xsD, ↓reduceIte, reduceCtorEq, eq_self, ne_eq, imp_self, forall_const, Nat.reduceEqDiff, Nat.reduceAdd, Nat.reduceSub, Nat.reduceMul, Nat.reduceLT, Nat.reduceLeDiff, Nat.reduceBEq, Nat.reduceDiv, Nat.reduceMod, Int.reduceToNat, Int.reduceNeg, Int.reduceAdd, Int.reduceSub, Int.reduceMul, Int.reduceEq, Int.reduceNe, Int.reduceLT, Int.reduceLE, Int.reduceGT, Int.reduceGE, f2], by simp -implicitDefEqProofs (maxSteps := 1000000) (disch := omega) only [↓xsP, ↓vc_seq, xsQ, xsT, xsR, xsD, ↓reduceIte, reduceCtorEq, eq_self, ne_eq, imp_self, forall_const, Nat.reduceEqDiff, Nat.reduceAdd, Nat.reduceSub, Nat.reduceMul, Nat.reduceLT, Nat.reduceLeDiff, Nat.reduceBEq, Nat.reduceDiv, Nat.reduceMod, Int.reduceToNat, Int.reduceNeg, Int.reduceAdd, Int.reduceSub, Int.reduceMul, Int.reduceEq, Int.reduceNe, Int.reduceLT, Int.reduceLE, Int.reduceGT, Int.reduceGE, f3], by simp -implicitDefEqProofs (maxSteps := 1000000) (disch := omega) only [↓xsP, ↓vc_seq, xsQ, xsT, xsR, xsD, ↓reduceIte, reduceCtorEq, eq_self, ne_eq, imp_self, forall_const, Nat.reduceEqDiff, Nat.reduceAdd, Nat.reduceSub, Nat.reduceMul, Nat.reduceLT, Nat.reduceLeDiff, Nat.reduceBEq, Nat.reduceDiv, Nat.reduceMod, Int.reduceToNat, Int.reduceNeg, Int.reduceAdd, Int.reduceSub, Int.reduceMul, Int.reduceEq, Int.reduceNe, Int.reduceLT, Int.reduceLE, Int.reduceGT, Int.reduceGE, sTxt, List.flatMap_nil], by simp -implicitDefEqProofs (maxSteps := 1000000) (disch := omega) only [↓xsP, ↓vc_seq, xsQ, xsT, xsR, xsD, ↓reduceIte, reduceCtorEq, eq_self, ne_eq, imp_self, forall_const, Nat.reduceEqDiff, Nat.reduceAdd, Nat.reduceSub, Nat.reduceMul, Nat.reduceLT, Nat.reduceLeDiff, Nat.reduceBEq, Nat.reduceDiv, Nat.reduceMod, Int.reduceToNat, Int.reduceNeg, Int.reduceAdd, Int.reduceSub, Int.reduceMul, Int.reduceEq, Int.reduceNe, Int.reduceLT, Int.reduceLE, Int.reduceGT, Int.reduceGE], by simp -implicitDefEqProofs (maxSteps := 1000000) (disch := omega) only [↓xsP, ↓vc_seq, xsQ, xsT, xsR, xsD, ↓reduceIte, reduceCtorEq, eq_self, ne_eq, imp_self, forall_const, Nat.reduceEqDiff, Nat.reduceAdd, Nat.reduceSub, Nat.reduceMul, Nat.reduceLT, Nat.reduceLeDiff, Nat.reduceBEq, Nat.reduceDiv, Nat.reduceMod, Int.reduceToNat, Int.reduceNeg, Int.reduceAdd, Int.reduceSub, Int.reduceMul, Int.reduceEq, Int.reduceNe, Int.reduceLT, Int.reduceLE, Int.reduceGT, Int.reduceGE], by simp -implicitDefEqProofs (maxSteps := 1000000) (disch := omega) only [↓xsP, ↓vc_seq, xsQ, xsT, xsR, xsD, ↓reduceIte, reduceCtorEq, eq_self, ne_eq, imp_self, forall_const, Nat.reduceEqDiff, Nat.reduceAdd, Nat.reduceSub, Nat.reduceMul, Nat.reduceLT, Nat.reduceLeDiff, Nat.reduceBEq, Nat.reduceDiv, Nat.reduceMod, Int.reduceToNat, Int.reduceNeg, Int.reduceAdd, Int.reduceSub, Int.reduceMul, Int.reduceEq, Int.reduceNe, Int.reduceLT, Int.reduceLE, Int.reduceGT, Int.reduceGE, Int.cast_ofNat_Int], rfl⟩
      clear f0 f1 f2 f3 f9 f25 f26 f27
      rintro k fr M3 ⟨j, hj, rfl, f0, f1, f2, f3, f12, f56, f57, f58, rfl⟩
      simp -implicitDefEqProofs (maxSteps := 1000000) (disch := omega) only [↓xsP, ↓vc_seq, xsQ, xsT, xsR, xsD, ↓reduceIte, reduceCtorEq, eq_self, ne_eq, imp_self, forall_const, Nat.reduceEqDiff, Nat.reduceAdd, Nat.reduceSub, Nat.reduceMul, Nat.reduceLT, Nat.reduceLeDiff, Nat.reduceBEq, Nat.reduceDiv, Nat.reduceMod, Int.reduceToNat, Int.reduceNeg, Int.reduceAdd, Int.reduceSub, Int.reduceMul, Int.reduceEq, Int.reduceNe, Int.reduceLT, Int.reduceLE, Int.reduceGT, Int.reduceGE, f0, f1, f2, f3, f12, f56, f57, f58]
      refine condI_prop (fun hlt2 => ?_) (fun hlt2 => ?_)
      · have hjl : j < s.length := by omega
        obtain ⟨p, hp⟩ : ∃ p, s.getD j default = p := ⟨_, rfl⟩
        have hpo := hs _ (getD_mem' s default hjl)
        rw [hp] at hpo
        simp -implicitDefEqProofs (maxSteps := 1000000) (disch := omega) only [↓xsP, ↓vc_seq, xsQ, xsT, xsR, xsD, ↓reduceIte, reduceCtorEq, eq_self, ne_eq, imp_self, forall_const, Nat.reduceEqDiff, Nat.reduceAdd, Nat.reduceSub, Nat.reduceMul, Nat.reduceLT, Nat.reduceLeDiff, Nat.reduceBEq, Nat.reduceDiv, Nat.reduceMod, Int.reduceToNat, Int.reduceNeg, Int.reduceAdd, Int.reduceSub, Int.reduceMul, Int.reduceEq, Int.reduceNe, Int.reduceLT, Int.reduceLE, Int.reduceGT, Int.reduceGE, f0, f1, f2, f3, f12, f56, f57, f58, hp]
        refine newI_intro fun id14 hid14 => ?_
        have hl14 : ∀ X : Blk, M3.le (M3.set id14 X) := fun X => le_new (Mem.le_refl _) hid14
        simp -implicitDefEqProofs (maxSteps := 1000000) (disch := omega) only [↓xsP, ↓vc_seq, xsQ, xsT, xsR, xsD, ↓reduceIte, reduceCtorEq, eq_self, ne_eq, imp_self, forall_const, Nat.reduceEqDiff, Nat.reduceAdd, Nat.reduceSub, Nat.reduceMul, Nat.reduceLT, Nat.reduceLeDiff, Nat.reduceBEq, Nat.reduceDiv, Nat.reduceMod, Int.reduceToNat, Int.reduceNeg, Int.reduceAdd, Int.reduceSub, Int.reduceMul, Int.reduceEq, Int.reduceNe, Int.reduceLT, Int.reduceLE, Int.reduceGT, Int.reduceGE, f0, f1, f2, f3, f12, f56, f57, f58, hp]
        refine xquiet (by kernel_rfl) (by kernel_rfl) (by kernel_rfl) ?_
        simp -implicitDefEqProofs (maxSteps := 1000000) (disch := omega) only [↓xsP, ↓vc_seq, xsQ, xsT, xsR, xsD, ↓reduceIte, reduceCtorEq, eq_self, ne_eq, imp_self, forall_const, Nat.reduceEqDiff, Nat.reduceAdd, Nat.reduceSub, Nat.reduceMul, Nat.reduceLT, Nat.reduceLeDiff, Nat.reduceBEq, Nat.reduceDiv, Nat.reduceMod, Int.reduceToNat, Int.reduceNeg, Int.reduceAdd, Int.reduceSub, Int.reduceMul, Int.reduceEq, Int.reduceNe, Int.reduceLT, Int.reduceLE, Int.reduceGT, Int.reduceGE, f0, f1, f2, f3, f12, f56, f57, f58, hp]
        refine dcallI_of (itoa_spec p.key hpo.1.1 hpo.1.2 _) ?_
        simp -implicitDefEqProofs (maxSteps := 1000000) (disch := omega) only [↓xsP, ↓vc_seq, xsQ, xsT, xsR, xsD, ↓reduceIte, reduceCtorEq, eq_self, ne_eq, imp_self, forall_const, Nat.reduceEqDiff, Nat.reduceAdd, Nat.reduceSub, Nat.reduceMul, Nat.reduceLT, Nat.reduceLeDiff, Nat.reduceBEq, Nat.reduceDiv, Nat.reduceMod, Int.reduceToNat, Int.reduceNeg, Int.reduceAdd, Int.reduceSub, Int.reduceMul, Int.reduceEq, Int.reduceNe, Int.reduceLT, Int.reduceLE, Int.reduceGT, Int.reduceGE, f0, f1, f2, f3, f12, f56, f57, f58, hp]
        have k1 := Lib.itoa_length_le p.key hpo.1.1 hpo.1.2
        have k2 := Lib.itoa_length_le p.val hpo.2.1 hpo.2.2
        have k3 := Lib.itoa_length_le d (by omega) (by omega)
        have k4 := sTxt_len (c1 := 44) (c2 := 58) (s := s.take j) fun x hx => hs x (List.mem_of_mem_take hx)
        rw [List.length_take] at k4
        have k5 : (Lib.itoa d ++ sTxt 44 58 (s.take j)).length ≤ 9000000 := by rw [List.length_append]; omega
        obtain ⟨t0, ht0⟩ : ∃ t0, Lib.itoa d ++ sTxt 44 58 (s.take j) = t0 := ⟨_, rfl⟩
        rw [ht0] at k5 f12
        refine add_txt (a := [44]) (b := Lib.itoa p.key) (by simp only [List.length_cons, List.length_nil]; omega) ?_
        simp -implicitDefEqProofs (maxSteps := 1000000) (disch := omega) only [↓xsP, ↓vc_seq, xsQ, xsT, xsR, xsD, ↓reduceIte, reduceCtorEq, eq_self, ne_eq, imp_self, forall_const, Nat.reduceEqDiff, Nat.reduceAdd, Nat.reduceSub, Nat.reduceMul, Nat.reduceLT, Nat.reduceLeDiff, Nat.reduceBEq, Nat.reduceDiv, Nat.reduceMod, Int.reduceToNat, Int.reduceNeg, Int.reduceAdd, Int.reduceSub, Int.reduceMul, Int.reduceEq, Int.reduceNe, Int.reduceLT, Int.reduceLE, Int.reduceGT, Int.reduceGE, f0, f1, f2, f3, f12, f56, f57, f58, hp]
        refine add_txt (b := [58]) (by simp only [List.length_append, List.length_cons, List.length_nil]; omega) ?_
        simp -implicitDefEqProofs (maxSteps := 1000000) (disch := omega) only [↓xsP, ↓vc_seq, xsQ, xsT, xsR, xsD, ↓reduceIte, reduceCtorEq, eq_self, ne_eq, imp_self, forall_const, Nat.reduceEqDiff, Nat.reduceAdd, Nat.reduceSub, Nat.reduceMul, Nat.reduceLT, Nat.reduceLeDiff, Nat.reduceBEq, Nat.reduceDiv, Nat.reduceMod, Int.reduceToNat, Int.reduceNeg, Int.reduceAdd, Int.reduceSub, Int.reduceMul, Int.reduceEq, Int.reduceNe, Int.reduceLT, Int.reduceLE, Int.reduceGT, Int.reduceGE, f0, f1, f2, f3, f12, f56, f57, f58, hp]
        refine dcallI_of (itoa_spec p.val hpo.2.1 hpo.2.2 _) ?_
        simp -implicitDefEqProofs (maxSteps := 1000000) (disch := omega) only [↓xsP, ↓vc_seq, xsQ, xsT, xsR, xsD, ↓reduceIte, reduceCtorEq, eq_self, ne_eq, imp_self, forall_const, Nat.reduceEqDiff, Nat.reduceAdd, Nat.reduceSub, Nat.reduceMul, Nat.reduceLT, Nat.reduceLeDiff, Nat.reduceBEq, Nat.reduceDiv, Nat.reduceMod, Int.reduceToNat, Int.reduceNeg, Int.reduceAdd, Int.reduceSub, Int.reduceMul, Int.reduceEq, Int.reduceNe, Int.reduceLT, Int.reduceLE, Int.reduceGT, Int.reduceGE, f0, f1, f2, f3, f12, f56, f57, f58, hp]
        refine add_txt (by simp only [List.length_append, List.length_cons, List.length_nil]; omega) ?_
        simp -implicitDefEqProofs (maxSteps := 1000000) (disch := omega) only [↓xsP, ↓vc_seq, xsQ, xsT, xsR, xsD, ↓reduceIte, reduceCtorEq, eq_self, ne_eq, imp_self, forall_const, Nat.reduceEqDiff, Nat.reduceAdd, Nat.reduceSub, Nat.reduceMul, Nat.reduceLT, Nat.reduceLeDiff, Nat.reduceBEq, Nat.reduceDiv, Nat.reduceMod, Int.reduceToNat, Int.reduceNeg, Int.reduceAdd, Int.reduceSub, Int.reduceMul, Int.reduceEq, Int.reduceNe, Int.reduceLT, Int.reduceLE, Int.reduceGT, Int.reduceGE, f0, f1, f2, f3, f12, f56, f57, f58, hp]
        refine add_txt (by simp only [List.length_append, List.length_cons, List.length_nil]; omega) ?_
        simp -implicitDefEqProofs (maxSteps := 1000000) (disch := omega) only [↓xsP, ↓vc_seq, xsQ, xsT, xsR, xsD, ↓reduceIte, reduceCtorEq, eq_self, ne_eq, imp_self, forall_const, Nat.reduceEqDiff, Nat.reduceAdd, Nat.reduceSub, Nat.reduceMul, Nat.reduceLT, Nat.reduceLeDiff, Nat.reduceBEq, Nat.reduceDiv, Nat.reduceMod, Int.reduceToNat, Int.reduceNeg, Int.reduceAdd, Int.reduceSub, Int.reduceMul, Int.reduceEq, Int.reduceNe, Int.reduceLT, Int.reduceLE, Int.reduceGT, Int.reduceGE, f0, f1, f2, f3, f12, f56, f57, f58, hp]
        refine ⟨s.length - (j + 1), M3, by omega, hl14 _, j + 1, by omega, rfl, ?_, by simp, rfl⟩
        rw [take_sc s default hjl, sTxt_app, ← List.append_assoc, ht0, hp]
        simp [sTxt]
      · have hjl : j = s.length := by omega
        subst hjl
        rw [List.take_of_length_le (Nat.le_refl _)] at f12
        have hMs3 := hBM _ _ hBs
        have hlk := lookup_txt (P := Go.Proofs.Tryd.prog) (M := M3) (t := 56) ⟨⟨_, _, _, _, _, ti_56, rfl, ti_9, rfl, ti_3, rfl⟩⟩ hMm (rKey d s)
        have hmu := mapUpd_txt (P := Go.Proofs.Tryd.prog) (M := M3) (t := 56) ⟨⟨_, _, _, _, _, ti_56, rfl, ti_9, rfl, ti_3, rfl⟩⟩ hMm (rKey d s)
        rw [← rKey] at f12
        simp -implicitDefEqProofs (maxSteps := 1000000) (disch := omega) only [↓xsP, ↓vc_seq, xsQ, xsT, xsR, xsD, ↓reduceIte, reduceCtorEq, eq_self, ne_eq, imp_self, forall_const, Nat.reduceEqDiff, Nat.reduceAdd, Nat.reduceSub, Nat.reduceMul, Nat.reduceLT, Nat.reduceLeDiff, Nat.reduceBEq, Nat.reduceDiv, Nat.reduceMod, Int.reduceToNat, Int.reduceNeg, Int.reduceAdd, Int.reduceSub, Int.reduceMul, Int.reduceEq, Int.reduceNe, Int.reduceLT, Int.reduceLE, Int.reduceGT, Int.reduceGE, f0, f1, f2, f3, f12, f56, f57, f58, hMs3, hlk, hmu]
        refine condI_prop (fun hmet => ?_) (fun hmet => ?_)
        · simp -implicitDefEqProofs (maxSteps := 1000000) (disch := omega) only [↓xsP, ↓vc_seq, xsQ, xsT, xsR, xsD, ↓reduceIte, reduceCtorEq, eq_self, ne_eq, imp_self, forall_const, Nat.reduceEqDiff, Nat.reduceAdd, Nat.reduceSub, Nat.reduceMul, Nat.reduceLT, Nat.reduceLeDiff, Nat.reduceBEq, Nat.reduceDiv, Nat.reduceMod, Int.reduceToNat, Int.reduceNeg, Int.reduceAdd, Int.reduceSub, Int.reduceMul, Int.reduceEq, Int.reduceNe, Int.reduceLT, Int.reduceLE, Int.reduceGT, Int.reduceGE]
          have hm : rKey d s ∈ ks := by
            by_cases h : rKey d s ∈ ks
            · exact h
            · exact absurd (if_neg h) hmet
          refine fin_ok (Mem.le_refl _) ⟨false, ks, rfl, hBM, hMm, (fun h => absurd h (by decide)), fun _ => ⟨?_, fun k hk => .inl hk⟩⟩
          rcases hks _ hm with ⟨d', s', e, hdd⟩ | ⟨d', s', e, hdd⟩
          · obtain ⟨e1, e2⟩ := rKey_inj e
            rw [e2, e1]
            exact hdd
          · have := (rKey_inj e).1
            omega
        clear hlk
        have hMs4 : ∀ X : Blk, (M3.set idm X) ids = some (.cells 70 [[.sl (C.map Cl.row), .mp idm, .int .i64 0]] 0) := fun X => by
          rw [Mem.set_ne _ _ _ _ (fun e => by rw [← e, hBm] at hBs; cases hBs)]
          exact hMs3
        simp -implicitDefEqProofs (maxSteps := 1000000) (disch := omega) only [↓xsP, ↓vc_seq, xsQ, xsT, xsR, xsD, ↓reduceIte, reduceCtorEq, eq_self, ne_eq, imp_self, forall_const, Nat.reduceEqDiff, Nat.reduceAdd, Nat.reduceSub, Nat.reduceMul, Nat.reduceLT, Nat.reduceLeDiff, Nat.reduceBEq, Nat.reduceDiv, Nat.reduceMod, Int.reduceToNat, Int.reduceNeg, Int.reduceAdd, Int.reduceSub, Int.reduceMul, Int.reduceEq, Int.reduceNe, Int.reduceLT, Int.reduceLE, Int.reduceGT, Int.reduceGE, f0, f1, f2, f3, f12, f56, f57, f58, hMs3, hmu, hMs4]
        refine loopI_of (xloop (by kernel_rfl) (fun k fr M4 => ∃ (i : Nat) (ks2 : List (List UInt8)), i ≤ C.length ∧ k = C.length - i ∧ fr 0 = .l (.ptr ids 0 0) ∧ fr 1 = .l (.sl (s.map Pr.row)) ∧ fr 2 = .l (.int .i64 d) ∧ fr 3 = .l (.int .i64 cnt) ∧ fr 89 = .l (.sl (C.map Cl.row)) ∧ fr 90 = .l (.int .i64 C.length) ∧ fr 91 = .l (.int .i64 i) ∧ B.le M4 ∧ M4 idm = some (.map (ks2.map sent)) ∧ (∀ k ∈ ks2, k ∈ kput ks (rKey d s) ∨ DeadK C k) ∧
          ∀ j, j < i → freeP C d j → (0 ≤ (C.getD j default).fin → doA s (C.getD j default).op = (C.getD j default).ans) → Dead C (d ||| 2 ^ j) (doL s (C.getD j default).op)) C.length ?_ ?_)
        · refine ⟨0, kput ks (rKey d s), Nat.zero_le _, rfl, by simp -implicitDefEqProofs (maxSteps := 1000000) (disch := omega) only [↓xsP, ↓vc_seq, xsQ, xsT, xsR, xsD, ↓reduceIte, reduceCtorEq, eq_self, ne_eq, imp_self, forall_const, Nat.reduceEqDiff, Nat.reduceAdd, Nat.reduceSub, Nat.reduceMul, Nat.reduceLT, Nat.reduceLeDiff, Nat.reduceBEq, Nat.reduceDiv, Nat.reduceMod, Int.reduceToNat, Int.reduceNeg, Int.reduceAdd, Int.reduceSub, Int.reduceMul, Int.reduceEq, Int.reduceNe, Int.reduceLT, Int.reduceLE, Int.reduceGT, Int.reduceGE, f0], by simp -implicitDefEqProofs (maxSteps := 1000000) (disch := omega) only [↓xsP, ↓vc_seq, xsQ, xsT, xsR, xsD, ↓reduceIte, reduceCtorEq, eq_self, ne_eq, imp_self, forall_const, Nat.reduceEqDiff, Nat.reduceAdd, Nat.reduceSub, Nat.reduceMul, Nat.reduceLT, Nat.reduceLeDiff, Nat.reduceBEq, Nat.reduceDiv, Nat.reduceMod, Int.reduceToNat, Int.reduceNeg, Int.reduceAdd, Int.reduceSub, Int.reduceMul, Int.reduceEq, Int.reduceNe, Int.reduceLT, Int.reduceLE, Int.reduceGT, Int.reduceGE, f1], by simp -implicitDefEqProofs (maxSteps := 1000000) (disch := omega) only [↓xsP, ↓vc_seq, xsQ, xsT, xsR, xsD, ↓reduceIte, reduceCtorEq, eq_self, ne_eq, imp_self, forall_const, Nat.reduceEqDiff, Nat.reduceAdd, Nat.reduceSub, Nat.reduceMul, Nat.reduceLT, Nat.reduceLeDiff, Nat.reduceBEq, Nat.reduceDiv, Nat.reduceMod, Int.reduceToNat, Int.reduceNeg, Int.reduceAdd, Int.reduceSub, Int.reduceMul, Int.reduceEq, Int.reduceNe, Int.reduceLT, Int.reduceLE, Int.reduceGT, Int.reduceGE, f2], by simp -implicitDefEqProofs (maxSteps := 1000000) (disch := omega) only [↓xsP, ↓vc_seq, xsQ, xsT, xsR, xsD, ↓reduceIte, reduceCtorEq, eq_self, ne_eq, imp_self, forall_const, Nat.reduceEqDiff, Nat.reduceAdd, Nat.reduceSub, Nat.reduceMul, Nat.reduceLT, Nat.reduceLeDiff, Nat.reduceBEq, Nat.reduceDiv, Nat.reduceMod, Int.reduceToNat, Int.reduceNeg, Int.reduceAdd, Int.reduceSub, Int.reduceMul, Int.reduceEq, Int.reduceNe, Int.reduceLT, Int.reduceLE, Int.reduceGT, Int.reduceGE, f3], by simp -implicitDefEqProofs (maxSteps := 1000000) (disch := omega) only [↓xsP, ↓vc_seq, xsQ, xsT, xsR, xsD, ↓reduceIte, reduceCtorEq, eq_self, ne_eq, imp_self, forall_const, Nat.reduceEqDiff, Nat.reduceAdd, Nat.reduceSub, Nat.reduceMul, Nat.reduceLT, Nat.reduceLeDiff, Nat.reduceBEq, Nat.reduceDiv, Nat.reduceMod, Int.reduceToNat, Int.reduceNeg, Int.reduceAdd, Int.reduceSub, Int.reduceMul, Int.reduceEq, Int.reduceNe, Int.reduceLT, Int.reduceLE, Int.reduceGT, Int.reduceGE], by simp -implicitDefEqProofs (maxSteps := 1000000) (disch := omega) only [↓xsP, ↓vc_seq, xsQ, xsT, xsR, xsD, ↓reduceIte, reduceCtorEq, eq_self, ne_eq, imp_self, forall_const, Nat.reduceEqDiff, Nat.reduceAdd, Nat.reduceSub, Nat.reduceMul, Nat.reduceLT, Nat.reduceLeDiff, Nat.reduceBEq, Nat.reduceDiv, Nat.reduceMod, Int.reduceToNat, Int.reduceNeg, Int.reduceAdd, Int.reduceSub, Int.reduceMul, Int.reduceEq, Int.reduceNe, Int.reduceLT, Int.reduceLE, Int.reduceGT, Int.reduceGE], by simp -implicitDefEqProofs (maxSteps := 1000000) (disch := omega) only [↓xsP, ↓vc_seq, xsQ, xsT, xsR, xsD, ↓reduceIte, reduceCtorEq, eq_self, ne_eq, imp_self, forall_const, Nat.reduceEqDiff, Nat.reduceAdd, Nat.reduceSub, Nat.reduceMul, Nat.reduceLT, Nat.reduceLeDiff, Nat.reduceBEq, Nat.reduceDiv, Nat.reduceMod, Int.reduceToNat, Int.reduceNeg, Int.reduceAdd, Int.reduceSub, Int.reduceMul, Int.reduceEq, Int.reduceNe, Int.reduceLT, Int.reduceLE, Int.reduceGT, Int.reduceGE, Int.cast_ofNat_Int], fun k bk hk => ?_, Mem.set_eq _ _ _, fun k hk => .inl hk, fun j hj => by omega⟩
          rw [Mem.set_ne _ _ _ _ (fun e => by rw [← e, hBm] at hk; cases hk)]
          exact hBM _ _ hk
        clear hMs4 hmu hMs3 f0 f1 f2 f3 f12 f56 f57 f58 hMm hBM
        rintro k fr M4 ⟨i, ks2, hi, rfl, f0, f1, f2, f3, f89, f90, f91, hBM, hMm, hk2, hno⟩
        have hMs4 := hBM _ _ hBs
        simp -implicitDefEqProofs (maxSteps := 1000000) (disch := omega) only [↓xsP, ↓vc_seq, xsQ, xsT, xsR, xsD, ↓reduceIte, reduceCtorEq, eq_self, ne_eq, imp_self, forall_const, Nat.reduceEqDiff, Nat.reduceAdd, Nat.reduceSub, Nat.reduceMul, Nat.reduceLT, Nat.reduceLeDiff, Nat.reduceBEq, Nat.reduceDiv, Nat.reduceMod, Int.reduceToNat, Int.reduceNeg, Int.reduceAdd, Int.reduceSub, Int.reduceMul, Int.reduceEq, Int.reduceNe, Int.reduceLT, Int.reduceLE, Int.reduceGT, Int.reduceGE, f0, f1, f2, f3, f89, f90, f91]
        refine condI_prop (fun hlt => ?_) (fun hlt => ?_)
        · have hil : i < C.length := by omega
          obtain ⟨c, hc⟩ : ∃ c, C.getD i default = c := ⟨_, rfl⟩
          simp -implicitDefEqProofs (maxSteps := 1000000) (disch := omega) only [↓xsP, ↓vc_seq, xsQ, xsT, xsR, xsD, ↓reduceIte, reduceCtorEq, eq_self, ne_eq, imp_self, forall_const, Nat.reduceEqDiff, Nat.reduceAdd, Nat.reduceSub, Nat.reduceMul, Nat.reduceLT, Nat.reduceLeDiff, Nat.reduceBEq, Nat.reduceDiv, Nat.reduceMod, Int.reduceToNat, Int.reduceNeg, Int.reduceAdd, Int.reduceSub, Int.reduceMul, Int.reduceEq, Int.reduceNe, Int.reduceLT, Int.reduceLE, Int.reduceGT, Int.reduceGE, f0, f1, f2, f3, f89, f90, f91, hc]
          refine newI_intro fun id16 hid16 => ?_
          have hl16 : ∀ X : Blk, M4.le (M4.set id16 X) := fun X => le_new (Mem.le_refl _) hid16
          have wu := wrapu i (by omega)
          have hskip : (freeP C d i → ¬ (0 ≤ c.fin → doA s c.op = c.ans)) → ∀ j, j < i + 1 → freeP C d j → (0 ≤ (C.getD j default).fin → doA s (C.getD j default).op = (C.getD j default).ans) → Dead C (d ||| 2 ^ j) (doL s (C.getD j default).op) := fun q j hj h1 h2 => by
            by_cases e : j = i
            · rw [e, hc] at h2
              exact absurd h2 (q (e ▸ h1))
            · exact hno j (by omega) h1 h2
          simp -implicitDefEqProofs (maxSteps := 1000000) (disch := omega) only [↓xsP, ↓vc_seq, xsQ, xsT, xsR, xsD, ↓reduceIte, reduceCtorEq, eq_self, ne_eq, imp_self, forall_const, Nat.reduceEqDiff, Nat.reduceAdd, Nat.reduceSub, Nat.reduceMul, Nat.reduceLT, Nat.reduceLeDiff, Nat.reduceBEq, Nat.reduceDiv, Nat.reduceMod, Int.reduceToNat, Int.reduceNeg, Int.reduceAdd, Int.reduceSub, Int.reduceMul, Int.reduceEq, Int.reduceNe, Int.reduceLT, Int.reduceLE, Int.reduceGT, Int.reduceGE, f0, f1, f2, f3, f89, f90, f91, hc, wu]
          rw [bit_decU1 hd (show i ≤ 16 by omega)]
          cases hb : d.testBit i with
          | true =>
            simp -implicitDefEqProofs (maxSteps := 1000000) (disch := omega) only [↓xsP, ↓vc_seq, xsQ, xsT, xsR, xsD, ↓reduceIte, reduceCtorEq, eq_self, ne_eq, imp_self, forall_const, Nat.reduceEqDiff, Nat.reduceAdd, Nat.reduceSub, Nat.reduceMul, Nat.reduceLT, Nat.reduceLeDiff, Nat.reduceBEq, Nat.reduceDiv, Nat.reduceMod, Int.reduceToNat, Int.reduceNeg, Int.reduceAdd, Int.reduceSub, Int.reduceMul, Int.reduceEq, Int.reduceNe, Int.reduceLT, Int.reduceLE, Int.reduceGT, Int.reduceGE, f0, f1, f2, f3, f89, f90, f91, hc, wu]
            exact ⟨C.length - (i + 1), M4, by omega, hl16 _, i + 1, ks2, by omega, rfl, by simp, hBM, hMm, hk2, hskip fun h => by rw [h.2.1] at hb; cases hb⟩
          | false =>
          simp -implicitDefEqProofs (maxSteps := 1000000) (disch := omega) only [↓xsP, ↓vc_seq, xsQ, xsT, xsR, xsD, ↓reduceIte, reduceCtorEq, eq_self, ne_eq, imp_self, forall_const, Nat.reduceEqDiff, Nat.reduceAdd, Nat.reduceSub, Nat.reduceMul, Nat.reduceLT, Nat.reduceLeDiff, Nat.reduceBEq, Nat.reduceDiv, Nat.reduceMod, Int.reduceToNat, Int.reduceNeg, Int.reduceAdd, Int.reduceSub, Int.reduceMul, Int.reduceEq, Int.reduceNe, Int.reduceLT, Int.reduceLE, Int.reduceGT, Int.reduceGE, f0, f1, f2, f3, f89, f90, f91, hc, wu]
          refine call_of (refused_spec c _) ?_
          rw [refB_iff]
          simp -implicitDefEqProofs (maxSteps := 1000000) (disch := omega) only [↓xsP, ↓vc_seq, xsQ, xsT, xsR, xsD, ↓reduceIte, reduceCtorEq, eq_self, ne_eq, imp_self, forall_const, Nat.reduceEqDiff, Nat.reduceAdd, Nat.reduceSub, Nat.reduceMul, Nat.reduceLT, Nat.reduceLeDiff, Nat.reduceBEq, Nat.reduceDiv, Nat.reduceMod, Int.reduceToNat, Int.reduceNeg, Int.reduceAdd, Int.reduceSub, Int.reduceMul, Int.reduceEq, Int.reduceNe, Int.reduceLT, Int.reduceLE, Int.reduceGT, Int.reduceGE, f0, f1, f2, f3, f89, f90, f91, hc, wu]
          refine condI_intro (fun hn => ?_) (fun hn => ?_)
          · simp -implicitDefEqProofs (maxSteps := 1000000) (disch := omega) only [↓xsP, ↓vc_seq, xsQ, xsT, xsR, xsD, ↓reduceIte, reduceCtorEq, eq_self, ne_eq, imp_self, forall_const, Nat.reduceEqDiff, Nat.reduceAdd, Nat.reduceSub, Nat.reduceMul, Nat.reduceLT, Nat.reduceLeDiff, Nat.reduceBEq, Nat.reduceDiv, Nat.reduceMod, Int.reduceToNat, Int.reduceNeg, Int.reduceAdd, Int.reduceSub, Int.reduceMul, Int.reduceEq, Int.reduceNe, Int.reduceLT, Int.reduceLE, Int.reduceGT, Int.reduceGE, f0, f1, f2, f3, f89, f90, f91, hc]
            exact ⟨C.length - (i + 1), M4, by omega, hl16 _, i + 1, ks2, by omega, rfl, by simp, hBM, hMm, hk2, hskip fun h => absurd (bof_iff.1 hn) (hc ▸ h.2.2)⟩
          have hnn : ¬ neverC c := bof_not.1 hn
          obtain ⟨N, hN, hN16, hMN⟩ : ∃ N, N = M4.set id16 (.cells 77 [c.row] 0) ∧ N id16 = some (.cells 77 [c.row] 0) ∧ M4.le N := ⟨_, rfl, Mem.set_eq _ _ _, hl16 _⟩
          have hNs := hMN _ _ hMs4
          rw [row_cl] at hN hN16
          rw [← hN]
          simp -implicitDefEqProofs (maxSteps := 1000000) (disch := omega) only [↓xsP, ↓vc_seq, xsQ, xsT, xsR, xsD, ↓reduceIte, reduceCtorEq, eq_self, ne_eq, imp_self, forall_const, Nat.reduceEqDiff, Nat.reduceAdd, Nat.reduceSub, Nat.reduceMul, Nat.reduceLT, Nat.reduceLeDiff, Nat.reduceBEq, Nat.reduceDiv, Nat.reduceMod, Int.reduceToNat, Int.reduceNeg, Int.reduceAdd, Int.reduceSub, Int.reduceMul, Int.reduceEq, Int.reduceNe, Int.reduceLT, Int.reduceLE, Int.reduceGT, Int.reduceGE, f0, f1, f2, f3, f89, f90, f91, hc, wu, hNs]
          refine loopI_of (xloop (by kernel_rfl) (fun k fr M5 => ∃ j : Nat, j ≤ C.length ∧ k = C.length - j ∧ fr 0 = .l (.ptr ids 0 0) ∧ fr 1 = .l (.sl (s.map Pr.row)) ∧ fr 2 = .l (.int .i64 d) ∧ fr 3 = .l (.int .i64 cnt) ∧ fr 89 = .l (.sl (C.map Cl.row)) ∧ fr 90 = .l (.int .i64 C.length) ∧ fr 91 = .l (.int .i64 i) ∧ fr 15 = .l (.int .i64 i) ∧ fr 16 = .l (.ptr id16 0 0) ∧ fr 17 = .l (.bool (bof (canP C d i j))) ∧ fr 109 = .l (.sl (C.map Cl.row)) ∧ fr 110 = .l (.int .i64 C.length) ∧ fr 111 = .l (.int .i64 j) ∧ M5 = N) C.length ?_ ?_)
          · refine ⟨0, Nat.zero_le _, rfl, by simp -implicitDefEqProofs (maxSteps := 1000000) (disch := omega) only [↓xsP, ↓vc_seq, xsQ, xsT, xsR, xsD, ↓reduceIte, reduceCtorEq, eq_self, ne_eq, imp_self, forall_const, Nat.reduceEqDiff, Nat.reduceAdd, Nat.reduceSub, Nat.reduceMul, Nat.reduceLT, Nat.reduceLeDiff, Nat.reduceBEq, Nat.reduceDiv, Nat.reduceMod, Int.reduceToNat, Int.reduceNeg, Int.reduceAdd, Int.reduceSub, Int.reduceMul, Int.reduceEq, Int.reduceNe, Int.reduceLT, Int.reduceLE, Int.reduceGT, Int.reduceGE, f0], by simp -implicitDefEqProofs (maxSteps := 1000000) (disch := omega) only [↓xsP, ↓vc_seq, xsQ, xsT, xsR, xsD, ↓reduceIte, reduceCtorEq, eq_self, ne_eq, imp_self, forall_const, Nat.reduceEqDiff, Nat.reduceAdd, Nat.reduceSub, Nat.reduceMul, Nat.reduceLT, Nat.reduceLeDiff, Nat.reduceBEq, Nat.reduceDiv, Nat.reduceMod, Int.reduceToNat, Int.reduceNeg, Int.reduceAdd, Int.reduceSub, Int.reduceMul, Int.reduceEq, Int.reduceNe, Int.reduceLT, Int.reduceLE, Int.reduceGT, Int.reduceGE, f1], by simp -implicitDefEqProofs (maxSteps := 1000000) (disch := omega) only [↓xsP, ↓vc_seq, xsQ, xsT, xsR, xsD, ↓reduceIte, reduceCtorEq, eq_self, ne_eq, imp_self, forall_const, Nat.reduceEqDiff, Nat.reduceAdd, Nat.reduceSub, Nat.reduceMul, Nat.reduceLT, Nat.reduceLeDiff, Nat.reduceBEq, Nat.reduceDiv, Nat.reduceMod, Int.reduceToNat, Int.reduceNeg, Int.reduceAdd, Int.reduceSub, Int.reduceMul, Int.reduceEq, Int.reduceNe, Int.reduceLT, Int.reduceLE, Int.reduceGT, Int.reduceGE, f2], by simp -implicitDefEqProofs (maxSteps := 1000000) (disch := omega) only [↓xsP, ↓vc_seq, xsQ, xsT, xsR, xsD, ↓reduceIte, reduceCtorEq, eq_self, ne_eq, imp_self, forall_const, Nat.reduceEqDiff, Nat.reduceAdd, Nat.reduceSub, Nat.reduceMul, Nat.reduceLT, Nat.reduceLeDiff, Nat.reduceBEq, Nat.reduceDiv, Nat.reduceMod, Int.reduceToNat, Int.reduceNeg, Int.reduceAdd, Int.reduceSub, Int.reduceMul, Int.reduceEq, Int.reduceNe, Int.reduceLT, Int.reduceLE, Int.reduceGT, Int.reduceGE, f3], by simp -implicitDefEqProofs (maxSteps := 1000000) (disch := omega) only [↓xsP, ↓vc_seq, xsQ, xsT, xsR, xsD, ↓reduceIte, reduceCtorEq, eq_self, ne_eq, imp_self, forall_const, Nat.reduceEqDiff, Nat.reduceAdd, Nat.reduceSub, Nat.reduceMul, Nat.reduceLT, Nat.reduceLeDiff, Nat.reduceBEq, Nat.reduceDiv, Nat.reduceMod, Int.reduceToNat, Int.reduceNeg, Int.reduceAdd, Int.reduceSub, Int.reduceMul, Int.reduceEq, Int.reduceNe, Int.reduceLT, Int.reduceLE, Int.reduceGT, Int.reduceGE, f89], by simp -implicitDefEqProofs (maxSteps := 1000000) (disch := omega) only [↓xsP, ↓vc_seq, xsQ, xsT, xsR, xsD, ↓reduceIte, reduceCtorEq, eq_self, ne_eq, imp_self, forall_const, Nat.reduceEqDiff, Nat.reduceAdd, Nat.reduceSub, Nat.reduceMul, Nat.reduceLT, Nat.reduceLeDiff, Nat.reduceBEq, Nat.reduceDiv, Nat.reduceMod, Int.reduceToNat, Int.reduceNeg, Int.reduceAdd, Int.reduceSub, Int.reduceMul, Int.reduceEq, Int.reduceNe, Int.reduceLT, Int.reduceLE, Int.reduceGT, Int.reduceGE, f90], by simp -implicitDefEqProofs (maxSteps := 1000000) (disch := omega) only [↓xsP, ↓vc_seq, xsQ, xsT, xsR, xsD, ↓reduceIte, reduceCtorEq, eq_self, ne_eq, imp_self, forall_const, Nat.reduceEqDiff, Nat.reduceAdd, Nat.reduceSub, Nat.reduceMul, Nat.reduceLT, Nat.reduceLeDiff, Nat.reduceBEq, Nat.reduceDiv, Nat.reduceMod, Int.reduceToNat, Int.reduceNeg, Int.reduceAdd, Int.reduceSub, Int.reduceMul, Int.reduceEq, Int.reduceNe, Int.reduceLT, Int.reduceLE, Int.reduceGT, Int.reduceGE, f91], by simp -implicitDefEqProofs (maxSteps := 1000000) (disch := omega) only [↓xsP, ↓vc_seq, xsQ, xsT, xsR, xsD, ↓reduceIte, reduceCtorEq, eq_self, ne_eq, imp_self, forall_const, Nat.reduceEqDiff, Nat.reduceAdd, Nat.reduceSub, Nat.reduceMul, Nat.reduceLT, Nat.reduceLeDiff, Nat.reduceBEq, Nat.reduceDiv, Nat.reduceMod, Int.reduceToNat, Int.reduceNeg, Int.reduceAdd, Int.reduceSub, Int.reduceMul, Int.reduceEq, Int.reduceNe, Int.reduceLT, Int.reduceLE, Int.reduceGT, Int.reduceGE], by simp -implicitDefEqProofs (maxSteps := 1000000) (disch := omega) only [↓xsP, ↓vc_seq, xsQ, xsT, xsR, xsD, ↓reduceIte, reduceCtorEq, eq_self, ne_eq, imp_self, forall_const, Nat.reduceEqDiff, Nat.reduceAdd, Nat.reduceSub, Nat.reduceMul, Nat.reduceLT, Nat.reduceLeDiff, Nat.reduceBEq, Nat.reduceDiv, Nat.reduceMod, Int.reduceToNat, Int.reduceNeg, Int.reduceAdd, Int.reduceSub, Int.reduceMul, Int.reduceEq, Int.reduceNe, Int.reduceLT, Int.reduceLE, Int.reduceGT, Int.reduceGE], ?_, by simp -implicitDefEqProofs (maxSteps := 1000000) (disch := omega) only [↓xsP, ↓vc_seq, xsQ, xsT, xsR, xsD, ↓reduceIte, reduceCtorEq, eq_self, ne_eq, imp_self, forall_const, Nat.reduceEqDiff, Nat.reduceAdd, Nat.reduceSub, Nat.reduceMul, Nat.reduceLT, Nat.reduceLeDiff, Nat.reduceBEq, Nat.reduceDiv, Nat.reduceMod, Int.reduceToNat, Int.reduceNeg, Int.reduceAdd, Int.reduceSub, Int.reduceMul, Int.reduceEq, Int.reduceNe, Int.reduceLT, Int.reduceLE, Int.reduceGT, Int.reduceGE], by simp -implicitDefEqProofs (maxSteps := 1000000) (disch := omega) only [↓xsP, ↓vc_seq, xsQ, xsT, xsR, xsD, ↓reduceIte, reduceCtorEq, eq_self, ne_eq, imp_self, forall_const, Nat.reduceEqDiff, Nat.reduceAdd, Nat.reduceSub, Nat.reduceMul, Nat.reduceLT, Nat.reduceLeDiff, Nat.reduceBEq, Nat.reduceDiv, Nat.reduceMod, Int.reduceToNat, Int.reduceNeg, Int.reduceAdd, Int.reduceSub, Int.reduceMul, Int.reduceEq, Int.reduceNe, Int.reduceLT, Int.reduceLE, Int.reduceGT, Int.reduceGE], by simp -implicitDefEqProofs (maxSteps := 1000000) (disch := omega) only [↓xsP, ↓vc_seq, xsQ, xsT, xsR, xsD, ↓reduceIte, reduceCtorEq, eq_self, ne_eq, imp_self, forall_const, Nat.reduceEqDiff, Nat.reduceAdd, Nat.reduceSub, Nat.reduceMul, Nat.reduceLT, Nat.reduceLeDiff, Nat.reduceBEq, Nat.reduceDiv, Nat.reduceMod, Int.reduceToNat, Int.reduceNeg, Int.reduceAdd, Int.reduceSub, Int.reduceMul, Int.reduceEq, Int.reduceNe, Int.reduceLT, Int.reduceLE, Int.reduceGT, Int.reduceGE, Int.cast_ofNat_Int], rfl⟩
            rw [bof_true (show canP C d i 0 from fun a ha => absurd ha (by omega))]
            simp -implicitDefEqProofs (maxSteps := 1000000) (disch := omega) only [↓xsP, ↓vc_seq, xsQ, xsT, xsR, xsD, ↓reduceIte, reduceCtorEq, eq_self, ne_eq, imp_self, forall_const, Nat.reduceEqDiff, Nat.reduceAdd, Nat.reduceSub, Nat.reduceMul, Nat.reduceLT, Nat.reduceLeDiff, Nat.reduceBEq, Nat.reduceDiv, Nat.reduceMod, Int.reduceToNat, Int.reduceNeg, Int.reduceAdd, Int.reduceSub, Int.reduceMul, Int.reduceEq, Int.reduceNe, Int.reduceLT, Int.reduceLE, Int.reduceGT, Int.reduceGE]
          clear f0 f1 f2 f3 f89 f90 f91
          rintro k fr M5 ⟨j, hj, rfl, f0, f1, f2, f3, f89, f90, f91, f15, f16, f17, f109, f110, f111, rfl⟩
          simp -implicitDefEqProofs (maxSteps := 1000000) (disch := omega) only [↓xsP, ↓vc_seq, xsQ, xsT, xsR, xsD, ↓reduceIte, reduceCtorEq, eq_self, ne_eq, imp_self, forall_const, Nat.reduceEqDiff, Nat.reduceAdd, Nat.reduceSub, Nat.reduceMul, Nat.reduceLT, Nat.reduceLeDiff, Nat.reduceBEq, Nat.reduceDiv, Nat.reduceMod, Int.reduceToNat, Int.reduceNeg, Int.reduceAdd, Int.reduceSub, Int.reduceMul, Int.reduceEq, Int.reduceNe, Int.reduceLT, Int.reduceLE, Int.reduceGT, Int.reduceGE, f0, f1, f2, f3, f89, f90, f91, f15, f16, f109, f110, f111]
          refine condI_prop (fun hlt2 => ?_) (fun hlt2 => ?_)
          · have hjl : j < C.length := by omega
            obtain ⟨e, he⟩ : ∃ e, C.getD j default = e := ⟨_, rfl⟩
            have hnx : ∀ (b : Bool), b = bof (canP C d i j ∧ (d.testBit j = true ∨ neverC e ∨ ¬ befP e c)) → b = bof (canP C d i (j + 1)) := fun b hb => by
              have := canP_succ C d i j
              rw [hc, he] at this
              rw [hb, bof_congr this]
            have wj := wrapu j (by omega)
            obtain ⟨cb, hcb⟩ : ∃ cb, bof (canP C d i j) = cb := ⟨_, rfl⟩
            rw [hcb] at f17
            simp -implicitDefEqProofs (maxSteps := 1000000) (disch := omega) only [↓xsP, ↓vc_seq, xsQ, xsT, xsR, xsD, ↓reduceIte, reduceCtorEq, eq_self, ne_eq, imp_self, forall_const, Nat.reduceEqDiff, Nat.reduceAdd, Nat.reduceSub, Nat.reduceMul, Nat.reduceLT, Nat.reduceLeDiff, Nat.reduceBEq, Nat.reduceDiv, Nat.reduceMod, Int.reduceToNat, Int.reduceNeg, Int.reduceAdd, Int.reduceSub, Int.reduceMul, Int.reduceEq, Int.reduceNe, Int.reduceLT, Int.reduceLE, Int.reduceGT, Int.reduceGE, f0, f1, f2, f3, f89, f90, f91, f15, f16, f17, f109, f110, f111, he, wj]
            refine newI_intro fun id19 hid19 => ?_
            have hl19 : ∀ X : Blk, M5.le (M5.set id19 X) := fun X => le_new (Mem.le_refl _) hid19
            have k19 := lt_of_bnd hid19 hN16
            simp -implicitDefEqProofs (maxSteps := 1000000) (disch := omega) only [↓xsP, ↓vc_seq, xsQ, xsT, xsR, xsD, ↓reduceIte, reduceCtorEq, eq_self, ne_eq, imp_self, forall_const, Nat.reduceEqDiff, Nat.reduceAdd, Nat.reduceSub, Nat.reduceMul, Nat.reduceLT, Nat.reduceLeDiff, Nat.reduceBEq, Nat.reduceDiv, Nat.reduceMod, Int.reduceToNat, Int.reduceNeg, Int.reduceAdd, Int.reduceSub, Int.reduceMul, Int.reduceEq, Int.reduceNe, Int.reduceLT, Int.reduceLE, Int.reduceGT, Int.reduceGE, f0, f1, f2, f3, f89, f90, f91, f15, f16, f17, f109, f110, f111, he, wj]
            cases cb with
            | false =>
              simp -implicitDefEqProofs (maxSteps := 1000000) (disch := omega) only [↓xsP, ↓vc_seq, xsQ, xsT, xsR, xsD, ↓reduceIte, reduceCtorEq, eq_self, ne_eq, imp_self, forall_const, Nat.reduceEqDiff, Nat.reduceAdd, Nat.reduceSub, Nat.reduceMul, Nat.reduceLT, Nat.reduceLeDiff, Nat.reduceBEq, Nat.reduceDiv, Nat.reduceMod, Int.reduceToNat, Int.reduceNeg, Int.reduceAdd, Int.reduceSub, Int.reduceMul, Int.reduceEq, Int.reduceNe, Int.reduceLT, Int.reduceLE, Int.reduceGT, Int.reduceGE, f0, f1, f2, f3, f89, f90, f91, f15, f16, f17, f109, f110, f111, he, wj]
              exact ⟨C.length - (j + 1), M5, by omega, hl19 _, j + 1, by omega, rfl, by rw [← hnx false (bof_false fun h => bof_not.1 hcb h.1).symm], by simp, rfl⟩
            | true =>
            have hcj := bof_iff.1 hcb
            simp -implicitDefEqProofs (maxSteps := 1000000) (disch := omega) only [↓xsP, ↓vc_seq, xsQ, xsT, xsR, xsD, ↓reduceIte, reduceCtorEq, eq_self, ne_eq, imp_self, forall_const, Nat.reduceEqDiff, Nat.reduceAdd, Nat.reduceSub, Nat.reduceMul, Nat.reduceLT, Nat.reduceLeDiff, Nat.reduceBEq, Nat.reduceDiv, Nat.reduceMod, Int.reduceToNat, Int.reduceNeg, Int.reduceAdd, Int.reduceSub, Int.reduceMul, Int.reduceEq, Int.reduceNe, Int.reduceLT, Int.reduceLE, Int.reduceGT, Int.reduceGE, f0, f1, f2, f3, f89, f90, f91, f15, f16, f17, f109, f110, f111, he, wj]
            rw [bit_decU1 hd (show j ≤ 16 by omega)]
            cases hbj : d.testBit j with
            | true =>
              simp -implicitDefEqProofs (maxSteps := 1000000) (disch := omega) only [↓xsP, ↓vc_seq, xsQ, xsT, xsR, xsD, ↓reduceIte, reduceCtorEq, eq_self, ne_eq, imp_self, forall_const, Nat.reduceEqDiff, Nat.reduceAdd, Nat.reduceSub, Nat.reduceMul, Nat.reduceLT, Nat.reduceLeDiff, Nat.reduceBEq, Nat.reduceDiv, Nat.reduceMod, Int.reduceToNat, Int.reduceNeg, Int.reduceAdd, Int.reduceSub, Int.reduceMul, Int.reduceEq, Int.reduceNe, Int.reduceLT, Int.reduceLE, Int.reduceGT, Int.reduceGE, f0, f1, f2, f3, f89, f90, f91, f15, f16, f17, f109, f110, f111, he, wj]
              exact ⟨C.length - (j + 1), M5, by omega, hl19 _, j + 1, by omega, rfl, by rw [← hnx true (bof_true ⟨hcj, .inl hbj⟩).symm], by simp, rfl⟩
            | false =>
            simp -implicitDefEqProofs (maxSteps := 1000000) (disch := omega) only [↓xsP, ↓vc_seq, xsQ, xsT, xsR, xsD, ↓reduceIte, reduceCtorEq, eq_self, ne_eq, imp_self, forall_const, Nat.reduceEqDiff, Nat.reduceAdd, Nat.reduceSub, Nat.reduceMul, Nat.reduceLT, Nat.reduceLeDiff, Nat.reduceBEq, Nat.reduceDiv, Nat.reduceMod, Int.reduceToNat, Int.reduceNeg, Int.reduceAdd, Int.reduceSub, Int.reduceMul, Int.reduceEq, Int.reduceNe, Int.reduceLT, Int.reduceLE, Int.reduceGT, Int.reduceGE, f0, f1, f2, f3, f89, f90, f91, f15, f16, f17, f109, f110, f111, he, wj]
            refine call_of (refused_spec e _) ?_
            rw [refB_iff]
            simp -implicitDefEqProofs (maxSteps := 1000000) (disch := omega) only [↓xsP, ↓vc_seq, xsQ, xsT, xsR, xsD, ↓reduceIte, reduceCtorEq, eq_self, ne_eq, imp_self, forall_const, Nat.reduceEqDiff, Nat.reduceAdd, Nat.reduceSub, Nat.reduceMul, Nat.reduceLT, Nat.reduceLeDiff, Nat.reduceBEq, Nat.reduceDiv, Nat.reduceMod, Int.reduceToNat, Int.reduceNeg, Int.reduceAdd, Int.reduceSub, Int.reduceMul, Int.reduceEq, Int.reduceNe, Int.reduceLT, Int.reduceLE, Int.reduceGT, Int.reduceGE, f0, f1, f2, f3, f89, f90, f91, f15, f16, f17, f109, f110, f111, he, wj]
            obtain ⟨nb, hnb⟩ : ∃ nb, bof (neverC e) = nb := ⟨_, rfl⟩
            rw [hnb]
            cases nb with
            | true =>
              simp -implicitDefEqProofs (maxSteps := 1000000) (disch := omega) only [↓xsP, ↓vc_seq, xsQ, xsT, xsR, xsD, ↓reduceIte, reduceCtorEq, eq_self, ne_eq, imp_self, forall_const, Nat.reduceEqDiff, Nat.reduceAdd, Nat.reduceSub, Nat.reduceMul, Nat.reduceLT, Nat.reduceLeDiff, Nat.reduceBEq, Nat.reduceDiv, Nat.reduceMod, Int.reduceToNat, Int.reduceNeg, Int.reduceAdd, Int.reduceSub, Int.reduceMul, Int.reduceEq, Int.reduceNe, Int.reduceLT, Int.reduceLE, Int.reduceGT, Int.reduceGE, f0, f1, f2, f3, f89, f90, f91, f15, f16, f17, f109, f110, f111, he, wj]
              exact ⟨C.length - (j + 1), M5, by omega, hl19 _, j + 1, by omega, rfl, by rw [← hnx true (bof_true ⟨hcj, .inr (.inl (bof_iff.1 hnb))⟩).symm], by simp, rfl⟩
            | false =>
            simp -implicitDefEqProofs (maxSteps := 1000000) (disch := omega) only [↓xsP, ↓vc_seq, xsQ, xsT, xsR, xsD, ↓reduceIte, reduceCtorEq, eq_self, ne_eq, imp_self, forall_const, Nat.reduceEqDiff, Nat.reduceAdd, Nat.reduceSub, Nat.reduceMul, Nat.reduceLT, Nat.reduceLeDiff, Nat.reduceBEq, Nat.reduceDiv, Nat.reduceMod, Int.reduceToNat, Int.reduceNeg, Int.reduceAdd, Int.reduceSub, Int.reduceMul, Int.reduceEq, Int.reduceNe, Int.reduceLT, Int.reduceLE, Int.reduceGT, Int.reduceGE, f0, f1, f2, f3, f89, f90, f91, f15, f16, f17, f109, f110, f111, he, wj, hN16]
            refine call_of (beforeR_spec e c _) ?_
            simp -implicitDefEqProofs (maxSteps := 1000000) (disch := omega) only [↓xsP, ↓vc_seq, xsQ, xsT, xsR, xsD, ↓reduceIte, reduceCtorEq, eq_self, ne_eq, imp_self, forall_const, Nat.reduceEqDiff, Nat.reduceAdd, Nat.reduceSub, Nat.reduceMul, Nat.reduceLT, Nat.reduceLeDiff, Nat.reduceBEq, Nat.reduceDiv, Nat.reduceMod, Int.reduceToNat, Int.reduceNeg, Int.reduceAdd, Int.reduceSub, Int.reduceMul, Int.reduceEq, Int.reduceNe, Int.reduceLT, Int.reduceLE, Int.reduceGT, Int.reduceGE, f0, f1, f2, f3, f89, f90, f91, f15, f16, f17, f109, f110, f111, he, wj, bef_dec]
            refine ⟨C.length - (j + 1), M5, by omega, hl19 _, j + 1, by omega, rfl, ?_, by simp, rfl⟩
            rw [← hnx (!bof (befP e c)) ?_]
            cases hbf : bof (befP e c) with
            | true => exact (bof_false (by
                rintro ⟨-, h | h | h⟩
                · rw [hbj] at h; cases h
                · exact bof_not.1 hnb h
                · exact h (bof_iff.1 hbf))).symm
            | false => exact (bof_true ⟨hcj, .inr (.inr (bof_not.1 hbf))⟩).symm
          · have hjl : j = C.length := by omega
            subst hjl
            simp -implicitDefEqProofs (maxSteps := 1000000) (disch := omega) only [↓xsP, ↓vc_seq, xsQ, xsT, xsR, xsD, ↓reduceIte, reduceCtorEq, eq_self, ne_eq, imp_self, forall_const, Nat.reduceEqDiff, Nat.reduceAdd, Nat.reduceSub, Nat.reduceMul, Nat.reduceLT, Nat.reduceLeDiff, Nat.reduceBEq, Nat.reduceDiv, Nat.reduceMod, Int.reduceToNat, Int.reduceNeg, Int.reduceAdd, Int.reduceSub, Int.reduceMul, Int.reduceEq, Int.reduceNe, Int.reduceLT, Int.reduceLE, Int.reduceGT, Int.reduceGE, f0, f1, f2, f3, f89, f90, f91, f15, f16, f17, f109, f110, f111]
            refine condI_intro (fun hcn => ?_) (fun hcn => ?_)
            · simp -implicitDefEqProofs (maxSteps := 1000000) (disch := omega) only [↓xsP, ↓vc_seq, xsQ, xsT, xsR, xsD, ↓reduceIte, reduceCtorEq, eq_self, ne_eq, imp_self, forall_const, Nat.reduceEqDiff, Nat.reduceAdd, Nat.reduceSub, Nat.reduceMul, Nat.reduceLT, Nat.reduceLeDiff, Nat.reduceBEq, Nat.reduceDiv, Nat.reduceMod, Int.reduceToNat, Int.reduceNeg, Int.reduceAdd, Int.reduceSub, Int.reduceMul, Int.reduceEq, Int.reduceNe, Int.reduceLT, Int.reduceLE, Int.reduceGT, Int.reduceGE, f0, f1, f2, f3, f89, f90, f91, f15, f16, f17]
              have hcan : ¬ canP C d i C.length := bof_not.1 (by simpa using hcn)
              exact ⟨C.length - (i + 1), M4, by omega, hMN, i + 1, ks2, by omega, rfl, by simp, hBM, hMm, hk2, hskip fun h => absurd ((canP_iff C d i).2 h.1) hcan⟩
            have hcan : canP C d i C.length := bof_iff.1 (by simpa using hcn)
            have hfr' : freeP C d i := ⟨(canP_iff C d i).1 hcan, hb, hc ▸ hnn⟩
            simp -implicitDefEqProofs (maxSteps := 1000000) (disch := omega) only [↓xsP, ↓vc_seq, xsQ, xsT, xsR, xsD, ↓reduceIte, reduceCtorEq, eq_self, ne_eq, imp_self, forall_const, Nat.reduceEqDiff, Nat.reduceAdd, Nat.reduceSub, Nat.reduceMul, Nat.reduceLT, Nat.reduceLeDiff, Nat.reduceBEq, Nat.reduceDiv, Nat.reduceMod, Int.reduceToNat, Int.reduceNeg, Int.reduceAdd, Int.reduceSub, Int.reduceMul, Int.reduceEq, Int.reduceNe, Int.reduceLT, Int.reduceLE, Int.reduceGT, Int.reduceGE, f0, f1, f2, f3, f89, f90, f91, f15, f16, f17, hN16]
            refine callI_of ((doR_is (IsL.sl s) (by omega) c.op _).mono ?_)
            rintro _ M6 ⟨rfl, rfl⟩
            have hdl2 := doA_lenO s c.op
            have hdd := doL_len s c.op
            simp -implicitDefEqProofs (maxSteps := 1000000) (disch := omega) only [↓xsP, ↓vc_seq, xsQ, xsT, xsR, xsD, ↓reduceIte, reduceCtorEq, eq_self, ne_eq, imp_self, forall_const, Nat.reduceEqDiff, Nat.reduceAdd, Nat.reduceSub, Nat.reduceMul, Nat.reduceLT, Nat.reduceLeDiff, Nat.reduceBEq, Nat.reduceDiv, Nat.reduceMod, Int.reduceToNat, Int.reduceNeg, Int.reduceAdd, Int.reduceSub, Int.reduceMul, Int.reduceEq, Int.reduceNe, Int.reduceLT, Int.reduceLE, Int.reduceGT, Int.reduceGE, f0, f1, f2, f3, f89, f90, f91, f15, f16, f17, hN16]
            refine newI_intro fun id21 hid21 => ?_
            have k21 := lt_of_bnd hid21 hN16
            have hl21 : ∀ X : Blk, M6.le (M6.set id21 X) := fun X => le_new (Mem.le_refl _) hid21
            have hN16' : ∀ X : Blk, (M6.set id21 X) id16 = M6 id16 := fun X => Mem.set_ne _ _ _ _ (by omega)
            simp -implicitDefEqProofs (maxSteps := 1000000) (disch := omega) only [↓xsP, xsQ, xsT, xsR, xsD, ↓reduceIte, reduceCtorEq, eq_self, ne_eq, imp_self, forall_const, Nat.reduceEqDiff, Nat.reduceAdd, Nat.reduceSub, Nat.reduceMul, Nat.reduceLT, Nat.reduceLeDiff, Nat.reduceBEq, Nat.reduceDiv, Nat.reduceMod, Int.reduceToNat, Int.reduceNeg, Int.reduceAdd, Int.reduceSub, Int.reduceMul, Int.reduceEq, Int.reduceNe, Int.reduceLT, Int.reduceLE, Int.reduceGT, Int.reduceGE, f0, f1, f2, f3, f89, f90, f91, f15, f16, f17, hN16, hN16']
            refine vc_seq_of ?_
            obtain ⟨sk, hsk⟩ : ∃ sk, sk = bof (0 ≤ c.fin ∧ doA s c.op ≠ c.ans) := ⟨_, rfl⟩
            refine vc_cut (fun fr2 M7 => fr2 0 = .l (.ptr ids 0 0) ∧ fr2 1 = .l (.sl (s.map Pr.row)) ∧ fr2 2 = .l (.int .i64 d) ∧ fr2 3 = .l (.int .i64 cnt) ∧ fr2 89 = .l (.sl (C.map Cl.row)) ∧ fr2 90 = .l (.int .i64 C.length) ∧ fr2 91 = .l (.int .i64 i) ∧ fr2 15 = .l (.int .i64 i) ∧ fr2 20 = .l (.sl ((doL s c.op).map Pr.row)) ∧ fr2 154 = .l (.bool sk) ∧ M6.le M7) ?_ ?_
            · simp -implicitDefEqProofs (maxSteps := 1000000) (disch := omega) only [↓xsP, ↓vc_seq, xsQ, xsT, xsR, xsD, ↓reduceIte, reduceCtorEq, eq_self, ne_eq, imp_self, forall_const, Nat.reduceEqDiff, Nat.reduceAdd, Nat.reduceSub, Nat.reduceMul, Nat.reduceLT, Nat.reduceLeDiff, Nat.reduceBEq, Nat.reduceDiv, Nat.reduceMod, Int.reduceToNat, Int.reduceNeg, Int.reduceAdd, Int.reduceSub, Int.reduceMul, Int.reduceEq, Int.reduceNe, Int.reduceLT, Int.reduceLE, Int.reduceGT, Int.reduceGE, f0, f1, f2, f3, f89, f90, f91, f15, f16, f17, hN16, hN16']
              refine gI_prop (fun hf => ?_) (fun hf => ?_)
              · simp -implicitDefEqProofs (maxSteps := 1000000) (disch := omega) only [↓xsP, ↓vc_seq, xsQ, xsT, xsR, xsD, ↓reduceIte, reduceCtorEq, eq_self, ne_eq, imp_self, forall_const, Nat.reduceEqDiff, Nat.reduceAdd, Nat.reduceSub, Nat.reduceMul, Nat.reduceLT, Nat.reduceLeDiff, Nat.reduceBEq, Nat.reduceDiv, Nat.reduceMod, Int.reduceToNat, Int.reduceNeg, Int.reduceAdd, Int.reduceSub, Int.reduceMul, Int.reduceEq, Int.reduceNe, Int.reduceLT, Int.reduceLE, Int.reduceGT, Int.reduceGE, f0, f1, f2, f3, f89, f90, f91, f15, f16, f17, hN16, hN16', hf]
                refine call_of (sameAnsR_spec (doA s c.op) c.ans (by omega) _) ?_
                simp -implicitDefEqProofs (maxSteps := 1000000) (disch := omega) only [↓xsP, ↓vc_seq, xsQ, xsT, xsR, xsD, ↓reduceIte, reduceCtorEq, eq_self, ne_eq, imp_self, forall_const, Nat.reduceEqDiff, Nat.reduceAdd, Nat.reduceSub, Nat.reduceMul, Nat.reduceLT, Nat.reduceLeDiff, Nat.reduceBEq, Nat.reduceDiv, Nat.reduceMod, Int.reduceToNat, Int.reduceNeg, Int.reduceAdd, Int.reduceSub, Int.reduceMul, Int.reduceEq, Int.reduceNe, Int.reduceLT, Int.reduceLE, Int.reduceGT, Int.reduceGE, f0, f1, f2, f3, f89, f90, f91, f15, f16, f17, hN16, hN16', hf]
                refine ⟨?_, hl21 _⟩
                rw [hsk]
                cases he : bof (doA s c.op = c.ans) with
                | true => rw [bof_false fun h => h.2 (bof_iff.1 he)]; rfl
                | false => rw [bof_true ⟨hf, bof_not.1 he⟩]; rfl
              · simp -implicitDefEqProofs (maxSteps := 1000000) (disch := omega) only [↓xsP, ↓vc_seq, xsQ, xsT, xsR, xsD, ↓reduceIte, reduceCtorEq, eq_self, ne_eq, imp_self, forall_const, Nat.reduceEqDiff, Nat.reduceAdd, Nat.reduceSub, Nat.reduceMul, Nat.reduceLT, Nat.reduceLeDiff, Nat.reduceBEq, Nat.reduceDiv, Nat.reduceMod, Int.reduceToNat, Int.reduceNeg, Int.reduceAdd, Int.reduceSub, Int.reduceMul, Int.reduceEq, Int.reduceNe, Int.reduceLT, Int.reduceLE, Int.reduceGT, Int.reduceGE, f0, f1, f2, f3, f89, f90, f91, f15, f16, f17, hN16, hN16', hf]
                refine ⟨?_, hl21 _⟩
                rw [hsk, bof_false fun h => hf h.1]
            rintro fr2 M7 ⟨g0, g1, g2, g3, g89, g90, g91, g15, g20, g154, hle7⟩
            simp -implicitDefEqProofs (maxSteps := 1000000) (disch := omega) only [↓xsP, ↓vc_seq, xsQ, xsT, xsR, xsD, ↓reduceIte, reduceCtorEq, eq_self, ne_eq, imp_self, forall_const, Nat.reduceEqDiff, Nat.reduceAdd, Nat.reduceSub, Nat.reduceMul, Nat.reduceLT, Nat.reduceLeDiff, Nat.reduceBEq, Nat.reduceDiv, Nat.reduceMod, Int.reduceToNat, Int.reduceNeg, Int.reduceAdd, Int.reduceSub, Int.reduceMul, Int.reduceEq, Int.reduceNe, Int.reduceLT, Int.reduceLE, Int.reduceGT, Int.reduceGE, g0, g1, g2, g3, g89, g90, g91, g15, g20, g154]
            refine condI_intro (fun hs1 => ?_) (fun hs1 => ?_)
            · simp -implicitDefEqProofs (maxSteps := 1000000) (disch := omega) only [↓xsP, ↓vc_seq, xsQ, xsT, xsR, xsD, ↓reduceIte, reduceCtorEq, eq_self, ne_eq, imp_self, forall_const, Nat.reduceEqDiff, Nat.reduceAdd, Nat.reduceSub, Nat.reduceMul, Nat.reduceLT, Nat.reduceLeDiff, Nat.reduceBEq, Nat.reduceDiv, Nat.reduceMod, Int.reduceToNat, Int.reduceNeg, Int.reduceAdd, Int.reduceSub, Int.reduceMul, Int.reduceEq, Int.reduceNe, Int.reduceLT, Int.reduceLE, Int.reduceGT, Int.reduceGE, g0, g1, g2, g3, g89, g90, g91, g15, g20, g154]
              have := bof_iff.1 (hsk.symm.trans hs1)
              exact ⟨C.length - (i + 1), M4, by omega, fun k bk hk => hle7 _ _ (hMN _ _ hk), i + 1, ks2, by omega, rfl, by simp, hBM, hMm, hk2, hskip fun _ h => this.2 (h this.1)⟩
            have hgood : 0 ≤ c.fin → doA s c.op = c.ans := fun h => by
              have := bof_not.1 (hsk.symm.trans hs1)
              by_cases e : doA s c.op = c.ans
              · exact e
              · exact absurd ⟨h, e⟩ this
            have hdi := or_gt hb
            have hdl := or_lt hd (show i < 16 by omega)
            simp -implicitDefEqProofs (maxSteps := 1000000) (disch := omega) only [↓xsP, ↓vc_seq, xsQ, xsT, xsR, xsD, ↓reduceIte, reduceCtorEq, eq_self, ne_eq, imp_self, forall_const, Nat.reduceEqDiff, Nat.reduceAdd, Nat.reduceSub, Nat.reduceMul, Nat.reduceLT, Nat.reduceLeDiff, Nat.reduceBEq, Nat.reduceDiv, Nat.reduceMod, Int.reduceToNat, Int.reduceNeg, Int.reduceAdd, Int.reduceSub, Int.reduceMul, Int.reduceEq, Int.reduceNe, Int.reduceLT, Int.reduceLE, Int.reduceGT, Int.reduceGE, g0, g1, g2, g3, g89, g90, g91, g15, g20, g154, wu]
            rw [or_powU d i hd (by omega)]
            have hcm : c ∈ C := by rw [← hc]; exact getD_mem' C default hil
            refine callI_of ((ih (d ||| 2 ^ i) (by omega) hdl (doL s c.op) (hs.doL (hCo c hcm)) (by omega) _ B _ ids idm ks2 ?_ (fun k bk hk => hle7 _ _ (hMN _ _ (hBM _ _ hk))) hBm (hle7 _ _ (hMN _ _ hMm)) hBs).mono ?_)
            · intro k hk
              rcases hk2 k hk with h | h
              · rcases kput_mem.1 h with h | h
                · rcases hks k h with h | ⟨d', s', e, h⟩
                  · exact .inl h
                  · exact .inr ⟨d', s', e, by omega⟩
                · exact .inr ⟨d, s, h, hdi⟩
              · exact .inl h
            rintro _ M8 ⟨bo, ks8, rfl, hB8, hm8, ht, hf⟩
            simp -implicitDefEqProofs (maxSteps := 1000000) (disch := omega) only [↓xsP, ↓vc_seq, xsQ, xsT, xsR, xsD, ↓reduceIte, reduceCtorEq, eq_self, ne_eq, imp_self, forall_const, Nat.reduceEqDiff, Nat.reduceAdd, Nat.reduceSub, Nat.reduceMul, Nat.reduceLT, Nat.reduceLeDiff, Nat.reduceBEq, Nat.reduceDiv, Nat.reduceMod, Int.reduceToNat, Int.reduceNeg, Int.reduceAdd, Int.reduceSub, Int.reduceMul, Int.reduceEq, Int.reduceNe, Int.reduceLT, Int.reduceLE, Int.reduceGT, Int.reduceGE, g0, g1, g2, g3, g89, g90, g91, g15, g20, g154]
            refine condI_intro (fun hb1 => ?_) (fun hb1 => ?_)
            · simp -implicitDefEqProofs (maxSteps := 1000000) (disch := omega) only [↓xsP, ↓vc_seq, xsQ, xsT, xsR, xsD, ↓reduceIte, reduceCtorEq, eq_self, ne_eq, imp_self, forall_const, Nat.reduceEqDiff, Nat.reduceAdd, Nat.reduceSub, Nat.reduceMul, Nat.reduceLT, Nat.reduceLeDiff, Nat.reduceBEq, Nat.reduceDiv, Nat.reduceMod, Int.reduceToNat, Int.reduceNeg, Int.reduceAdd, Int.reduceSub, Int.reduceMul, Int.reduceEq, Int.reduceNe, Int.reduceLT, Int.reduceLE, Int.reduceGT, Int.reduceGE, g0, g1, g2, g3, g89, g90, g91, g15, g20, g154]
              obtain ⟨l, hl⟩ := ht hb1
              exact fin_ok (Mem.le_refl _) ⟨true, ks8, rfl, hB8, hm8, fun _ => ⟨i :: l, .cons hil hfr' (by rw [hc]; exact hgood) (by rw [hc]; exact hl)⟩, fun h => absurd h (by decide)⟩
            · simp -implicitDefEqProofs (maxSteps := 1000000) (disch := omega) only [↓xsP, ↓vc_seq, xsQ, xsT, xsR, xsD, ↓reduceIte, reduceCtorEq, eq_self, ne_eq, imp_self, forall_const, Nat.reduceEqDiff, Nat.reduceAdd, Nat.reduceSub, Nat.reduceMul, Nat.reduceLT, Nat.reduceLeDiff, Nat.reduceBEq, Nat.reduceDiv, Nat.reduceMod, Int.reduceToNat, Int.reduceNeg, Int.reduceAdd, Int.reduceSub, Int.reduceMul, Int.reduceEq, Int.reduceNe, Int.reduceLT, Int.reduceLE, Int.reduceGT, Int.reduceGE, g0, g1, g2, g3, g89, g90, g91, g15, g20, g154]
              obtain ⟨hdead, hk8⟩ := hf hb1
              refine ⟨C.length - (i + 1), M8, by omega, Mem.le_refl _, i + 1, ks8, by omega, rfl, by simp, hB8, hm8, fun k hk => ?_, fun j hj h1 h2 => ?_⟩
              · rcases hk8 k hk with h | h
                · exact hk2 k h
                · exact .inr h
              · by_cases e : j = i
                · rw [e, hc]
                  exact hdead
                · exact hno j (by omega) h1 h2
        · have hil : i = C.length := by omega
          simp -implicitDefEqProofs (maxSteps := 1000000) (disch := omega) only [↓xsP, ↓vc_seq, xsQ, xsT, xsR, xsD, ↓reduceIte, reduceCtorEq, eq_self, ne_eq, imp_self, forall_const, Nat.reduceEqDiff, Nat.reduceAdd, Nat.reduceSub, Nat.reduceMul, Nat.reduceLT, Nat.reduceLeDiff, Nat.reduceBEq, Nat.reduceDiv, Nat.reduceMod, Int.reduceToNat, Int.reduceNeg, Int.reduceAdd, Int.reduceSub, Int.reduceMul, Int.reduceEq, Int.reduceNe, Int.reduceLT, Int.reduceLE, Int.reduceGT, Int.reduceGE, f0, f1, f2, f3, f89, f90, f91]
          have hdd : Dead C d s := by
            rintro ⟨l, hl⟩
            cases hl with
            | nil h => exact h hdue
            | cons hi hf ha h => exact hno _ (by omega) hf ha ⟨_, h⟩
          refine fin_ok (Mem.le_refl _) ⟨false, ks2, rfl, hBM, hMm, (fun h => absurd h (by decide)), fun _ => ⟨hdd, fun k hk => ?_⟩⟩
          rcases hk2 k hk with h | h
          · rcases kput_mem.1 h with h | h
            · exact .inl h
            · exact .inr ⟨d, s, h, hdd⟩
          · exact .inr h
end Go.X
set_option linter.unusedVariables false
set_option linter.unusedSimpArgs false
set_option maxHeartbeats 20000000
set_option maxRecDepth 100000
namespace Go.X
open Go.Proofs.Tryd (prog)

theorem outp_rd {N M' : Mem} {v : AV} {l : List Pr} (h : OutP N v M' l) : ∃ x M'', v = .l x ∧ GStep M' M'' ∧ Rd M'' x (l.map Pr.row) ∧ N.le M'' := by
  rcases h with ⟨rfl, rfl, rfl⟩ | ⟨id, hid, rfl, rfl⟩
  · exact ⟨_, _, rfl, GStep.le (Mem.le_refl _), Rd.nils _, Mem.le_refl _⟩
  · refine ⟨_, _, rfl, GStep.frz (Mem.set_eq _ _ _), Rd.ms (Mem.set_eq _ _ _) (Nat.le_max_right _ _) (by simp), fun k bk hk => ?_⟩
    rw [Mem.set_set]
    exact le_new (Mem.le_refl _) hid _ _ hk
theorem rany_spec (b : List Pr) (h : List Evt) (hb : b.length ≤ 1000) (hbo : AllOk b) (hs : Small h) (hho : OpsOk (callsP h)) (M : Mem) :
    XCalls Go.Proofs.Tryd.prog 18 [.l (.sl (b.map Pr.row)), .l (.sl (h.map Evt.row))] M fun r M' => M' = M ∧ ∃ (ok : Bool) (e : Int), r = .tup [.l (.bool ok), .l (.int .i64 e)] ∧ ((¬ Askable b h ∧ ok = false ∧ e = 1) ∨ (Askable b h ∧ e = 0 ∧ (ok = true ↔ ∃ l, Comp (callsP h) 0 (putL b) l))) := by
  refine xcalls_intro (rs := [.tmp 4, .tmp 5]) Go.Proofs.Tryd.func18 rfl (by kernel_rfl) rfl rfl (by kernel_rfl) (by simp) ?_
  simp -implicitDefEqProofs (maxSteps := 1000000) (disch := omega) only [↓xsP, ↓vc_seq, xsQ, xsT, xsR, xsD, ↓reduceIte, reduceCtorEq, eq_self, ne_eq, imp_self, forall_const, Nat.reduceEqDiff, Nat.reduceAdd, Nat.reduceSub, Nat.reduceMul, Nat.reduceLT, Nat.reduceLeDiff, Nat.reduceBEq, Nat.reduceDiv, Nat.reduceMod, Int.reduceToNat, Int.reduceNeg, Int.reduceAdd, Int.reduceSub, Int.reduceMul, Int.reduceEq, Int.reduceNe, Int.reduceLT, Int.reduceLE, Int.reduceGT, Int.reduceGE]
  refine call_of (callsR_spec h hs _) ?_
  simp -implicitDefEqProofs (maxSteps := 1000000) (disch := omega) only [↓xsP, ↓vc_seq, xsQ, xsT, xsR, xsD, ↓reduceIte, reduceCtorEq, eq_self, ne_eq, imp_self, forall_const, Nat.reduceEqDiff, Nat.reduceAdd, Nat.reduceSub, Nat.reduceMul, Nat.reduceLT, Nat.reduceLeDiff, Nat.reduceBEq, Nat.reduceDiv, Nat.reduceMod, Int.reduceToNat, Int.reduceNeg, Int.reduceAdd, Int.reduceSub, Int.reduceMul, Int.reduceEq, Int.reduceNe, Int.reduceLT, Int.reduceLE, Int.reduceGT, Int.reduceGE]
  refine call_of (mayPairs_spec b (by omega) _) ?_
  have hbad : ¬ Askable b h → @finI Go.Proofs.Tryd.prog (.tup [.l (.bool false), .l (.int .i64 1)]) M ⟨fun r M' => M' = M ∧ ∃ (ok : Bool) (e : Int), r = .tup [.l (.bool ok), .l (.int .i64 e)] ∧ ((¬ Askable b h ∧ ok = false ∧ e = 1) ∨ (Askable b h ∧ e = 0 ∧ (ok = true ↔ ∃ l, Comp (callsP h) 0 (putL b) l)))⟩ := fun hn => fin_ok (Mem.le_refl _) ⟨rfl, false, 1, rfl, .inl ⟨hn, rfl, rfl⟩⟩
  by_cases hR : Rises b
  rotate_left
  · rw [bof_false hR]
    simp -implicitDefEqProofs (maxSteps := 1000000) (disch := omega) only [↓xsP, ↓vc_seq, xsQ, xsT, xsR, xsD, ↓reduceIte, reduceCtorEq, eq_self, ne_eq, imp_self, forall_const, Nat.reduceEqDiff, Nat.reduceAdd, Nat.reduceSub, Nat.reduceMul, Nat.reduceLT, Nat.reduceLeDiff, Nat.reduceBEq, Nat.reduceDiv, Nat.reduceMod, Int.reduceToNat, Int.reduceNeg, Int.reduceAdd, Int.reduceSub, Int.reduceMul, Int.reduceEq, Int.reduceNe, Int.reduceLT, Int.reduceLE, Int.reduceGT, Int.reduceGE]
    exact hbad fun h => hR h.1
  rw [bof_true hR]
  simp -implicitDefEqProofs (maxSteps := 1000000) (disch := omega) only [↓xsP, ↓vc_seq, xsQ, xsT, xsR, xsD, ↓reduceIte, reduceCtorEq, eq_self, ne_eq, imp_self, forall_const, Nat.reduceEqDiff, Nat.reduceAdd, Nat.reduceSub, Nat.reduceMul, Nat.reduceLT, Nat.reduceLeDiff, Nat.reduceBEq, Nat.reduceDiv, Nat.reduceMod, Int.reduceToNat, Int.reduceNeg, Int.reduceAdd, Int.reduceSub, Int.reduceMul, Int.reduceEq, Int.reduceNe, Int.reduceLT, Int.reduceLE, Int.reduceGT, Int.reduceGE]
  refine call_of (mayPast_spec h hs _) ?_
  rw [mayP_eq]
  cases hok : okP h with
  | false =>
    simp -implicitDefEqProofs (maxSteps := 1000000) (disch := omega) only [↓xsP, ↓vc_seq, xsQ, xsT, xsR, xsD, ↓reduceIte, reduceCtorEq, eq_self, ne_eq, imp_self, forall_const, Nat.reduceEqDiff, Nat.reduceAdd, Nat.reduceSub, Nat.reduceMul, Nat.reduceLT, Nat.reduceLeDiff, Nat.reduceBEq, Nat.reduceDiv, Nat.reduceMod, Int.reduceToNat, Int.reduceNeg, Int.reduceAdd, Int.reduceSub, Int.reduceMul, Int.reduceEq, Int.reduceNe, Int.reduceLT, Int.reduceLE, Int.reduceGT, Int.reduceGE]
    exact hbad fun hh => by have := hh.2.1; rw [hok] at this; cases this
  | true =>
  simp -implicitDefEqProofs (maxSteps := 1000000) (disch := omega) only [↓xsP, ↓vc_seq, xsQ, xsT, xsR, xsD, ↓reduceIte, reduceCtorEq, eq_self, ne_eq, imp_self, forall_const, Nat.reduceEqDiff, Nat.reduceAdd, Nat.reduceSub, Nat.reduceMul, Nat.reduceLT, Nat.reduceLeDiff, Nat.reduceBEq, Nat.reduceDiv, Nat.reduceMod, Int.reduceToNat, Int.reduceNeg, Int.reduceAdd, Int.reduceSub, Int.reduceMul, Int.reduceEq, Int.reduceNe, Int.reduceLT, Int.reduceLE, Int.reduceGT, Int.reduceGE]
  refine condI_prop (fun hlt => ?_) (fun hlt => ?_)
  · simp -implicitDefEqProofs (maxSteps := 1000000) (disch := omega) only [↓xsP, ↓vc_seq, xsQ, xsT, xsR, xsD, ↓reduceIte, reduceCtorEq, eq_self, ne_eq, imp_self, forall_const, Nat.reduceEqDiff, Nat.reduceAdd, Nat.reduceSub, Nat.reduceMul, Nat.reduceLT, Nat.reduceLeDiff, Nat.reduceBEq, Nat.reduceDiv, Nat.reduceMod, Int.reduceToNat, Int.reduceNeg, Int.reduceAdd, Int.reduceSub, Int.reduceMul, Int.reduceEq, Int.reduceNe, Int.reduceLT, Int.reduceLE, Int.reduceGT, Int.reduceGE]
    exact hbad fun h => by have := h.2.2; omega
  have hask : Askable b h := ⟨hR, hok, by omega⟩
  have hpb : putL b = b := putL_idO ((rises_asc b).1 hR)
  simp -implicitDefEqProofs (maxSteps := 1000000) (disch := omega) only [↓xsP, ↓vc_seq, xsQ, xsT, xsR, xsD, ↓reduceIte, reduceCtorEq, eq_self, ne_eq, imp_self, forall_const, Nat.reduceEqDiff, Nat.reduceAdd, Nat.reduceSub, Nat.reduceMul, Nat.reduceLT, Nat.reduceLeDiff, Nat.reduceBEq, Nat.reduceDiv, Nat.reduceMod, Int.reduceToNat, Int.reduceNeg, Int.reduceAdd, Int.reduceSub, Int.reduceMul, Int.reduceEq, Int.reduceNe, Int.reduceLT, Int.reduceLE, Int.reduceGT, Int.reduceGE]
  refine newI_intro fun idm hidm => ?_
  simp -implicitDefEqProofs (maxSteps := 1000000) (disch := omega) only [↓xsP, ↓vc_seq, xsQ, xsT, xsR, xsD, ↓reduceIte, reduceCtorEq, eq_self, ne_eq, imp_self, forall_const, Nat.reduceEqDiff, Nat.reduceAdd, Nat.reduceSub, Nat.reduceMul, Nat.reduceLT, Nat.reduceLeDiff, Nat.reduceBEq, Nat.reduceDiv, Nat.reduceMod, Int.reduceToNat, Int.reduceNeg, Int.reduceAdd, Int.reduceSub, Int.reduceMul, Int.reduceEq, Int.reduceNe, Int.reduceLT, Int.reduceLE, Int.reduceGT, Int.reduceGE]
  refine newI_intro fun ids hids => ?_
  obtain ⟨kms, hidsM⟩ := bnd_new hids
  simp -implicitDefEqProofs (maxSteps := 1000000) (disch := omega) only [↓xsP, ↓vc_seq, xsQ, xsT, xsR, xsD, ↓reduceIte, reduceCtorEq, eq_self, ne_eq, imp_self, forall_const, Nat.reduceEqDiff, Nat.reduceAdd, Nat.reduceSub, Nat.reduceMul, Nat.reduceLT, Nat.reduceLeDiff, Nat.reduceBEq, Nat.reduceDiv, Nat.reduceMod, Int.reduceToNat, Int.reduceNeg, Int.reduceAdd, Int.reduceSub, Int.reduceMul, Int.reduceEq, Int.reduceNe, Int.reduceLT, Int.reduceLE, Int.reduceGT, Int.reduceGE]
  refine app_clone (by omega) fun v M2 hO => ?_
  obtain ⟨x, M3, rfl, hG, hx, hle3⟩ := outp_rd hO
  simp -implicitDefEqProofs (maxSteps := 1000000) (disch := omega) only [↓xsP, ↓vc_seq, xsQ, xsT, xsR, xsD, ↓reduceIte, reduceCtorEq, eq_self, ne_eq, imp_self, forall_const, Nat.reduceEqDiff, Nat.reduceAdd, Nat.reduceSub, Nat.reduceMul, Nat.reduceLT, Nat.reduceLeDiff, Nat.reduceBEq, Nat.reduceDiv, Nat.reduceMod, Int.reduceToNat, Int.reduceNeg, Int.reduceAdd, Int.reduceSub, Int.reduceMul, Int.reduceEq, Int.reduceNe, Int.reduceLT, Int.reduceLE, Int.reduceGT, Int.reduceGE]
  refine callI_gs hG (callI_of (XCalls.mono (XCalls.rd (.cons (.inl ⟨rfl, Fast.ptr _ _ _⟩) (.cons (.inr ⟨_, _, rfl, rfl, hx⟩) (.cons (.inl ⟨rfl, Fast.int _ _⟩) (.cons (.inl ⟨rfl, Fast.int _ _⟩) .nil)))) (rgo1_spec (callsP h) (by omega) hho 65536 0 (by omega) (by omega) b hbo (by omega) 0 (M.set ids (.cells 70 [r8Row (callsP h) idm] 0)) M3 ids idm [] (fun k hk => by cases hk) ?_ ?_ ?_ (Mem.set_eq _ _ _))) ?_))
  · intro k bk hk
    refine hle3 _ _ ?_
    rw [Mem.set_app] at hk ⊢
    by_cases q : ids = k
    · rw [if_pos q] at hk ⊢
      exact hk
    · rw [if_neg q] at hk ⊢
      exact le_new (Mem.le_refl _) hidm _ _ hk
  · rw [Mem.set_ne _ _ _ _ (by omega)]
    exact hidm _ (Nat.le_refl _)
  · refine hle3 _ _ ?_
    rw [Mem.set_ne _ _ _ _ (by omega), Mem.set_eq]
    rfl
  · rintro _ M8 ⟨bo, ks8, rfl, hB8, hm8, ht, hf⟩
    simp -implicitDefEqProofs (maxSteps := 1000000) (disch := omega) only [↓xsP, ↓vc_seq, xsQ, xsT, xsR, xsD, ↓reduceIte, reduceCtorEq, eq_self, ne_eq, imp_self, forall_const, Nat.reduceEqDiff, Nat.reduceAdd, Nat.reduceSub, Nat.reduceMul, Nat.reduceLT, Nat.reduceLeDiff, Nat.reduceBEq, Nat.reduceDiv, Nat.reduceMod, Int.reduceToNat, Int.reduceNeg, Int.reduceAdd, Int.reduceSub, Int.reduceMul, Int.reduceEq, Int.reduceNe, Int.reduceLT, Int.reduceLE, Int.reduceGT, Int.reduceGE]
    refine fin_ok (fun k bk hk => hB8 _ _ (le_new (Mem.le_refl _) hidsM _ _ hk)) ⟨rfl, bo, 0, rfl, .inr ⟨hask, rfl, ?_⟩⟩
    rw [hpb]
    cases bo with
    | true => exact ⟨fun _ => ht rfl, fun _ => rfl⟩
    | false => exact ⟨(fun h => absurd h (by decide)), fun h => absurd h (hf rfl).1⟩
end Go.X
set_option linter.unusedVariables false
set_option linter.unusedSimpArgs false
set_option maxRecDepth 100000
namespace Go.X

theorem or_bit {d i j : Nat} : (d ||| 2 ^ i).testBit j = (d.testBit j || decide (i = j)) := by
  rw [Nat.testBit_or, Nat.testBit_two_pow]
theorem or_bit_f {d i j : Nat} (h : (d ||| 2 ^ i).testBit j = false) : d.testBit j = false ∧ j ≠ i := by
  rw [or_bit, Bool.or_eq_false_iff] at h
  exact ⟨h.1, fun e => by rw [e] at h; simp at h⟩
theorem clAt_n (C : List Cl) (n : Nat) : clAt C (n : Int) = C.getD n default := by rw [clAt, Int.toNat_natCast]
theorem comp_sound {C : List Cl} {d : Nat} {s : List Pr} {l : List Nat} (h : Comp C d s l) :
    (∀ i ∈ l, i < C.length ∧ d.testBit i = false ∧ ¬ neverC (C.getD i default)) ∧ l.Nodup ∧ (∀ j, j < C.length → d.testBit j = false → mustC (C.getD j default) → j ∈ l) ∧
    (l.Pairwise fun i j => ¬ befP (C.getD j default) (C.getD i default)) ∧ (goesO C (ixs l) s).isSome = true := by
  induction h with
  | nil h =>
    refine ⟨(fun i hi => absurd hi List.not_mem_nil), List.nodup_nil, fun j hj hb hm => ?_, List.Pairwise.nil, rfl⟩
    exact absurd ⟨j, hj, hb, hm⟩ h
  | @cons d i s l hi hf ha h ih =>
    obtain ⟨h1, h2, h3, h4, h5⟩ := ih
    refine ⟨fun j hj => ?_, ?_, fun j hj hb hm => ?_, ?_, ?_⟩
    · rcases List.mem_cons.1 hj with rfl | hj
      · exact ⟨hi, hf.2⟩
      · obtain ⟨a1, a2, a3⟩ := h1 j hj
        exact ⟨a1, (or_bit_f a2).1, a3⟩
    · rw [List.nodup_cons]
      refine ⟨fun hm => ?_, h2⟩
      exact (or_bit_f (h1 i hm).2.1).2 rfl
    · by_cases e : j = i
      · rw [e]; simp
      · refine List.mem_cons_of_mem _ (h3 j hj ?_ hm)
        rw [or_bit, hb]
        simp [Ne.symm e]
    · rw [List.pairwise_cons]
      refine ⟨fun j hj hbf => ?_, h4⟩
      obtain ⟨a1, a2, a3⟩ := h1 j hj
      refine hf.1 j a1 (or_bit_f a2).1 ⟨hbf.1, ?_⟩ hbf
      by_cases e : (C.getD j default).ans.err = 0
      · exact e
      · exact absurd ⟨hbf.1, e⟩ a3
    · rw [ixs, List.map_cons, goesO, clAt_n, if_neg (fun hh => hh.2 (ha hh.1))]
      exact h5
theorem comp_complete {C : List Cl} (hirr : ∀ i, i < C.length → ¬ befP (C.getD i default) (C.getD i default)) : ∀ (l : List Nat) (d : Nat) (s : List Pr),
    (∀ i ∈ l, i < C.length ∧ d.testBit i = false ∧ ¬ neverC (C.getD i default)) → l.Nodup → (∀ j, j < C.length → d.testBit j = false → mustC (C.getD j default) → j ∈ l) →
    (l.Pairwise fun i j => ¬ befP (C.getD j default) (C.getD i default)) → (goesO C (ixs l) s).isSome = true → ∃ l', Comp C d s l'
  | [], d, s, h1, h2, h3, h4, h5 => ⟨[], .nil fun ⟨j, a, b, c⟩ => absurd (h3 j a b c) List.not_mem_nil⟩
  | i :: l, d, s, h1, h2, h3, h4, h5 => by
    by_cases hd : dueP C d
    · rw [List.nodup_cons] at h2
      rw [List.pairwise_cons] at h4
      rw [ixs, List.map_cons, goesO, clAt_n] at h5
      obtain ⟨a1, a2, a3⟩ := h1 i (by simp)
      by_cases hg : 0 ≤ (C.getD i default).fin ∧ doA s (C.getD i default).op ≠ (C.getD i default).ans
      · rw [if_pos hg] at h5
        cases h5
      · rw [if_neg hg] at h5
        obtain ⟨l', hl'⟩ := comp_complete hirr l (d ||| 2 ^ i) (doL s (C.getD i default).op) (fun j hj => by
          obtain ⟨b1, b2, b3⟩ := h1 j (by simp [hj])
          refine ⟨b1, ?_, b3⟩
          rw [or_bit, b2]
          have : i ≠ j := fun e => h2.1 (e ▸ hj)
          simp [this]) h2.2 (fun j hj hb hm => by
          obtain ⟨b1, b2⟩ := or_bit_f hb
          exact (List.mem_cons.1 (h3 j hj b1 hm)).resolve_left b2) h4.2 h5
        refine ⟨i :: l', .cons a1 ⟨fun j hj hb hm hbf => ?_, a2, a3⟩ (fun h0 => ?_) hl'⟩
        · rcases List.mem_cons.1 (h3 j hj hb hm) with e | hjl
          · rw [e] at hbf
            exact hirr i a1 hbf
          · exact h4.1 j hjl hbf
        · by_cases e : doA s (C.getD i default).op = (C.getD i default).ans
          · exact e
          · exact absurd ⟨h0, e⟩ hg
    · exact ⟨[], .nil hd⟩
theorem calls_irr {h : List Evt} (hok : okP h = true) : ∀ i, i < (callsP h).length → ¬ befP ((callsP h).getD i default) ((callsP h).getD i default) := by
  obtain ⟨ms, hr, I⟩ := okP_inv hok
  rintro i hi ⟨h1, h2⟩
  rcases I.fin i hi with e | ⟨f, e, e2, _⟩
  · simp only at e
    omega
  · simp only at e e2
    omega
theorem ixs_mem {l : List Nat} {x : Int} : x ∈ ixs l ↔ ∃ i ∈ l, (i : Int) = x := by
  rw [ixs, List.mem_map]
theorem comp_right {b : List Pr} {h : List Evt} {l : List Nat} (hb : Rises b) (hok : okP h = true) (hc : Comp (callsP h) 0 (putL b) l) : (rightO b h (ixs l)).isSome = true := by
  obtain ⟨h1, h2, h3, h4, h5⟩ := comp_sound hc
  have hn : namedB (callsP h) (ixs l) = true := bof_true ⟨fun x hx => ?_, ?_, fun j hj h0 => ⟨fun hm => ?_, fun he => ?_⟩⟩
  have ht : timelyB (callsP h) (ixs l) = true := by
    rw [timely_pw, bof_iff, ixs, List.pairwise_map]
    refine h4.imp fun {a b} hab => ?_
    rw [clAt_n, clAt_n]
    exact hab
  · rw [right_mk (bof_true hb) hok hn ht]
    exact h5
  · obtain ⟨i, hi, rfl⟩ := ixs_mem.1 hx
    have := (h1 i hi).1
    omega
  · rw [ixs]
    exact List.Pairwise.map (R := (· ≠ ·)) _ (fun a b h e => h (by omega)) h2
  · obtain ⟨i, hi, e⟩ := ixs_mem.1 hm
    have e : i = j := by omega
    subst e
    by_cases he : ((callsP h).getD i default).ans.err = 0
    · exact he
    · exact absurd ⟨h0, he⟩ (h1 i hi).2.2
  · exact ixs_mem.2 ⟨j, h3 j hj (Nat.zero_testBit j) ⟨h0, he⟩, rfl⟩
theorem right_comp {b : List Pr} {h : List Evt} {l : List Int} (hr : (rightO b h l).isSome = true) : Rises b ∧ okP h = true ∧ ∃ l', Comp (callsP h) 0 (putL b) l' := by
  obtain ⟨s, hs⟩ := Option.isSome_iff_exists.1 hr
  obtain ⟨g1, g2, g3, g4, g5⟩ := right_inv hs
  obtain ⟨h1, h2, h3⟩ := bof_iff.1 g3
  rw [timely_pw, bof_iff] at g4
  refine ⟨bof_iff.1 g1, g2, ?_⟩
  obtain ⟨m, rfl⟩ : ∃ m : List Nat, l = ixs m := ⟨l.map Int.toNat, by
    rw [ixs, List.map_map]
    conv => lhs; rw [← List.map_id l]
    refine List.map_congr_left fun x hx => ?_
    have := (h1 x hx).1
    simp only [id, Function.comp]
    omega⟩
  refine comp_complete (calls_irr g2) m 0 (putL b) (fun i hi => ?_) ?_ (fun j hj _ hm => ?_) ?_ (by rw [g5]; rfl)
  · have := h1 i (ixs_mem.2 ⟨i, hi, rfl⟩)
    refine ⟨by omega, Nat.zero_testBit i, fun hn => ?_⟩
    exact hn.2 ((h3 i (by omega) hn.1).1 (ixs_mem.2 ⟨i, hi, rfl⟩))
  · rw [ixs] at h2
    exact (List.Pairwise.of_map (S := (· ≠ ·)) (fun i : Nat => (i : Int)) (fun a b h e => h (by rw [e])) h2)
  · obtain ⟨i, hi, e⟩ := ixs_mem.1 ((h3 j hj hm.1).2 hm.2)
    have e : i = j := by omega
    exact e ▸ hi
  · rw [ixs, List.pairwise_map] at g4
    refine g4.imp fun {a b} hab => ?_
    rw [clAt_n, clAt_n] at hab
    exact hab
/-- What was found is right; where nothing is found nothing is. -/
theorem found_right {b : List Pr} {h : List Evt} {l : List Int} {e : Int} (hf : Found b h l true e) : (rightO b h l).isSome = true ∧ e = 0 ∧ Askable b h := by
  cases hf with
  | some ha hc => exact ⟨comp_right ha.1 ha.2.1 hc, rfl, ha⟩
theorem found_not {b : List Pr} {h : List Evt} {l : List Int} {e : Int} (hf : Found b h l false e) (ha : Askable b h) (m : List Int) : rightO b h m = none := by
  cases hf with
  | bad hn => exact absurd ha hn
  | none _ hd =>
    cases hr : rightO b h m with
    | none => rfl
    | some s => exact absurd (right_comp (l := m) (by rw [hr]; rfl)).2.2 hd
theorem found_nil {b : List Pr} {h : List Evt} {l : List Int} {e : Int} (hf : Found b h l false e) : l = [] := by
  cases hf <;> rfl
/-- Where there is a right order, one is found. -/
theorem found_of {b : List Pr} {h : List Evt} {l m : List Int} {ok : Bool} {e : Int} (hf : Found b h l ok e) (hlen : (callsP h).length ≤ 16) (hr : (rightO b h m).isSome = true) : ok = true := by
  obtain ⟨h1, h2, h3⟩ := right_comp hr
  cases hf with
  | bad hn => exact absurd ⟨h1, h2, hlen⟩ hn
  | none _ hd => exact absurd h3 hd
  | some _ _ => rfl
end Go.X
set_option linter.unusedVariables false
set_option linter.unusedSimpArgs false
set_option maxHeartbeats 20000000
set_option maxRecDepth 100000
namespace Go.X
open Go.Proofs.Tryd (prog)

def psum (h : List Evt) : Nat := (h.map fun x => x.ans.pairs.length).sum
def LightOk (h : List Evt) : Prop := h.length ≤ 200 ∧ psum h ≤ 3000
theorem psum_le {B : Nat} : ∀ (h : List Evt), (∀ x ∈ h, x.ans.pairs.length ≤ B) → psum h ≤ h.length * B
  | [], _ => by simp [psum]
  | x :: r, hx => by
    have h1 := psum_le r fun y hy => hx y (by simp [hy])
    have h2 := hx x (by simp)
    simp only [psum, List.map_cons, List.sum_cons, List.length_cons] at h1 ⊢
    rw [Nat.add_mul]
    omega
theorem psum_mem {h : List Evt} {x : Evt} (hx : x ∈ h) : x.ans.pairs.length ≤ psum h := by
  induction h with
  | nil => cases hx
  | cons y r ih =>
    simp only [psum, List.map_cons, List.sum_cons] at ih ⊢
    rcases List.mem_cons.1 hx with rfl | hx
    · omega
    · have := ih hx
      omega
theorem LightOk.small {h : List Evt} (hl : LightOk h) : Small h := ⟨by have := hl.1; omega, fun x hx => by have := psum_mem hx; have := hl.2; omega⟩
theorem psum_take {h : List Evt} {i : Nat} (hi : i < h.length) : psum (h.take (i + 1)) = psum (h.take i) + (h.getD i default).ans.pairs.length := by
  have : h.take (i + 1) = h.take i ++ [h.getD i default] := by
    rw [List.take_add_one, List.getD_eq_getElem?_getD, List.getElem?_eq_getElem hi]
    rfl
  rw [this]
  simp [psum, List.map_append, List.sum_append]

theorem light_spec (h : List Evt) (hl : h.length ≤ 140737488355328) (hp : ∀ x ∈ h, x.ans.pairs.length ≤ 140737488355328) (M : Mem) : XCalls Go.Proofs.Tryd.prog 16 [.l (.sl (h.map Evt.row))] M fun r M' => (r = .l (.int .i64 1) ∨ r = .l (.int .i64 0) ∧ LightOk h) ∧ M' = M := by
  refine xcalls_intro (rs := [.tmp 2]) Go.Proofs.Tryd.func16 rfl (by kernel_rfl) rfl rfl (by kernel_rfl) (by simp) ?_
  simp -implicitDefEqProofs (maxSteps := 1000000) (disch := omega) only [↓xsP, ↓vc_seq, xsQ, xsT, xsR, xsD, ↓reduceIte, reduceCtorEq, eq_self, ne_eq, imp_self, forall_const, Nat.reduceEqDiff, Nat.reduceAdd, Nat.reduceSub, Nat.reduceMul, Nat.reduceLT, Nat.reduceLeDiff, Nat.reduceBEq, Nat.reduceDiv, Nat.reduceMod, Int.reduceToNat, Int.reduceNeg, Int.reduceAdd, Int.reduceSub, Int.reduceMul, Int.reduceEq, Int.reduceNe, Int.reduceLT, Int.reduceLE, Int.reduceGT, Int.reduceGE]
  refine loopI_of (xloop (by kernel_rfl) (fun k fr M' => ∃ (i : Nat) (n : Int), i ≤ h.length ∧ k = h.length - i ∧ fr 0 = .l (.sl (h.map Evt.row)) ∧ fr 3 = .l (.int .i64 n) ∧ fr 6 = .l (.sl (h.map Evt.row)) ∧ fr 7 = .l (.int .i64 h.length) ∧ fr 8 = .l (.int .i64 i) ∧ M' = M ∧ (i ≤ 200 → n = psum (h.take i))) h.length ?_ ?_)
  · exact ⟨0, 0, Nat.zero_le _, rfl, by simp -implicitDefEqProofs (maxSteps := 1000000) (disch := omega) only [↓xsP, ↓vc_seq, xsQ, xsT, xsR, xsD, ↓reduceIte, reduceCtorEq, eq_self, ne_eq, imp_self, forall_const, Nat.reduceEqDiff, Nat.reduceAdd, Nat.reduceSub, Nat.reduceMul, Nat.reduceLT, Nat.reduceLeDiff, Nat.reduceBEq, Nat.reduceDiv, Nat.reduceMod, Int.reduceToNat, Int.reduceNeg, Int.reduceAdd, Int.reduceSub, Int.reduceMul, Int.reduceEq, Int.reduceNe, Int.reduceLT, Int.reduceLE, Int.reduceGT, Int.reduceGE], by simp -implicitDefEqProofs (maxSteps := 1000000) (disch := omega) only [↓xsP, ↓vc_seq, xsQ, xsT, xsR, xsD, ↓reduceIte, reduceCtorEq, eq_self, ne_eq, imp_self, forall_const, Nat.reduceEqDiff, Nat.reduceAdd, Nat.reduceSub, Nat.reduceMul, Nat.reduceLT, Nat.reduceLeDiff, Nat.reduceBEq, Nat.reduceDiv, Nat.reduceMod, Int.reduceToNat, Int.reduceNeg, Int.reduceAdd, Int.reduceSub, Int.reduceMul, Int.reduceEq, Int.reduceNe, Int.reduceLT, Int.reduceLE, Int.reduceGT, Int.reduceGE], by simp -implicitDefEqProofs (maxSteps := 1000000) (disch := omega) only [↓xsP, ↓vc_seq, xsQ, xsT, xsR, xsD, ↓reduceIte, reduceCtorEq, eq_self, ne_eq, imp_self, forall_const, Nat.reduceEqDiff, Nat.reduceAdd, Nat.reduceSub, Nat.reduceMul, Nat.reduceLT, Nat.reduceLeDiff, Nat.reduceBEq, Nat.reduceDiv, Nat.reduceMod, Int.reduceToNat, Int.reduceNeg, Int.reduceAdd, Int.reduceSub, Int.reduceMul, Int.reduceEq, Int.reduceNe, Int.reduceLT, Int.reduceLE, Int.reduceGT, Int.reduceGE], by simp -implicitDefEqProofs (maxSteps := 1000000) (disch := omega) only [↓xsP, ↓vc_seq, xsQ, xsT, xsR, xsD, ↓reduceIte, reduceCtorEq, eq_self, ne_eq, imp_self, forall_const, Nat.reduceEqDiff, Nat.reduceAdd, Nat.reduceSub, Nat.reduceMul, Nat.reduceLT, Nat.reduceLeDiff, Nat.reduceBEq, Nat.reduceDiv, Nat.reduceMod, Int.reduceToNat, Int.reduceNeg, Int.reduceAdd, Int.reduceSub, Int.reduceMul, Int.reduceEq, Int.reduceNe, Int.reduceLT, Int.reduceLE, Int.reduceGT, Int.reduceGE], by simp -implicitDefEqProofs (maxSteps := 1000000) (disch := omega) only [↓xsP, ↓vc_seq, xsQ, xsT, xsR, xsD, ↓reduceIte, reduceCtorEq, eq_self, ne_eq, imp_self, forall_const, Nat.reduceEqDiff, Nat.reduceAdd, Nat.reduceSub, Nat.reduceMul, Nat.reduceLT, Nat.reduceLeDiff, Nat.reduceBEq, Nat.reduceDiv, Nat.reduceMod, Int.reduceToNat, Int.reduceNeg, Int.reduceAdd, Int.reduceSub, Int.reduceMul, Int.reduceEq, Int.reduceNe, Int.reduceLT, Int.reduceLE, Int.reduceGT, Int.reduceGE, Int.cast_ofNat_Int], rfl, fun _ => by simp [psum]⟩
  · rintro k fr M' ⟨i, n, hi, rfl, h0, h3, h6, h7, h8, rfl, hn⟩
    simp -implicitDefEqProofs (maxSteps := 1000000) (disch := omega) only [↓xsP, ↓vc_seq, xsQ, xsT, xsR, xsD, ↓reduceIte, reduceCtorEq, eq_self, ne_eq, imp_self, forall_const, Nat.reduceEqDiff, Nat.reduceAdd, Nat.reduceSub, Nat.reduceMul, Nat.reduceLT, Nat.reduceLeDiff, Nat.reduceBEq, Nat.reduceDiv, Nat.reduceMod, Int.reduceToNat, Int.reduceNeg, Int.reduceAdd, Int.reduceSub, Int.reduceMul, Int.reduceEq, Int.reduceNe, Int.reduceLT, Int.reduceLE, Int.reduceGT, Int.reduceGE, h0, h3, h6, h7, h8]
    refine condI_prop (fun hlt => ?_) (fun hlt => ?_)
    · simp -implicitDefEqProofs (maxSteps := 1000000) (disch := omega) only [↓xsP, ↓vc_seq, xsQ, xsT, xsR, xsD, ↓reduceIte, reduceCtorEq, eq_self, ne_eq, imp_self, forall_const, Nat.reduceEqDiff, Nat.reduceAdd, Nat.reduceSub, Nat.reduceMul, Nat.reduceLT, Nat.reduceLeDiff, Nat.reduceBEq, Nat.reduceDiv, Nat.reduceMod, Int.reduceToNat, Int.reduceNeg, Int.reduceAdd, Int.reduceSub, Int.reduceMul, Int.reduceEq, Int.reduceNe, Int.reduceLT, Int.reduceLE, Int.reduceGT, Int.reduceGE, h0, h3, h6, h7, h8]
      refine newI_intro fun id hid => ?_
      simp -implicitDefEqProofs (maxSteps := 1000000) (disch := omega) only [↓xsP, ↓vc_seq, xsQ, xsT, xsR, xsD, ↓reduceIte, reduceCtorEq, eq_self, ne_eq, imp_self, forall_const, Nat.reduceEqDiff, Nat.reduceAdd, Nat.reduceSub, Nat.reduceMul, Nat.reduceLT, Nat.reduceLeDiff, Nat.reduceBEq, Nat.reduceDiv, Nat.reduceMod, Int.reduceToNat, Int.reduceNeg, Int.reduceAdd, Int.reduceSub, Int.reduceMul, Int.reduceEq, Int.reduceNe, Int.reduceLT, Int.reduceLE, Int.reduceGT, Int.reduceGE, h0, h3, h6, h7, h8]
      have hi' : i < h.length := by omega
      have hps := psum_take hi'
      have hxm : h.getD i default ∈ h := by
        simp [List.getD_eq_getElem?_getD, List.getElem?_eq_getElem hi']
      refine ⟨h.length - (i + 1), M', by omega, le_new (Mem.le_refl _) hid, i + 1, IntKind.i64.wrap (n + (h.getD i default).ans.pairs.length), by omega, rfl, rfl, by simp, rfl, fun h200 => ?_⟩
      have hb := hp _ hxm
      have h1 := psum_le (B := 140737488355328) (h.take i) fun x hx => hp x (List.mem_of_mem_take hx)
      have h2 : (h.take i).length * 140737488355328 ≤ 200 * 140737488355328 := Nat.mul_le_mul_right _ (by simp; omega)
      rw [hn (by omega), hps, wrap_in (by omega) (by omega)]
      omega
    · simp -implicitDefEqProofs (maxSteps := 1000000) (disch := omega) only [↓xsP, ↓vc_seq, xsQ, xsT, xsR, xsD, ↓reduceIte, reduceCtorEq, eq_self, ne_eq, imp_self, forall_const, Nat.reduceEqDiff, Nat.reduceAdd, Nat.reduceSub, Nat.reduceMul, Nat.reduceLT, Nat.reduceLeDiff, Nat.reduceBEq, Nat.reduceDiv, Nat.reduceMod, Int.reduceToNat, Int.reduceNeg, Int.reduceAdd, Int.reduceSub, Int.reduceMul, Int.reduceEq, Int.reduceNe, Int.reduceLT, Int.reduceLE, Int.reduceGT, Int.reduceGE, h0, h3, h6, h7, h8]
      refine gI_prop_f (fun hc => ?_) (fun hc => ?_)
      · simp -implicitDefEqProofs (maxSteps := 1000000) (disch := omega) only [↓xsP, ↓vc_seq, xsQ, xsT, xsR, xsD, ↓reduceIte, reduceCtorEq, eq_self, ne_eq, imp_self, forall_const, Nat.reduceEqDiff, Nat.reduceAdd, Nat.reduceSub, Nat.reduceMul, Nat.reduceLT, Nat.reduceLeDiff, Nat.reduceBEq, Nat.reduceDiv, Nat.reduceMod, Int.reduceToNat, Int.reduceNeg, Int.reduceAdd, Int.reduceSub, Int.reduceMul, Int.reduceEq, Int.reduceNe, Int.reduceLT, Int.reduceLE, Int.reduceGT, Int.reduceGE, h0, h3, h6, h7, h8, hc]
        refine condI_prop (fun hc2 => ?_) (fun hc2 => ?_)
        · simp -implicitDefEqProofs (maxSteps := 1000000) (disch := omega) only [↓xsP, ↓vc_seq, xsQ, xsT, xsR, xsD, ↓reduceIte, reduceCtorEq, eq_self, ne_eq, imp_self, forall_const, Nat.reduceEqDiff, Nat.reduceAdd, Nat.reduceSub, Nat.reduceMul, Nat.reduceLT, Nat.reduceLeDiff, Nat.reduceBEq, Nat.reduceDiv, Nat.reduceMod, Int.reduceToNat, Int.reduceNeg, Int.reduceAdd, Int.reduceSub, Int.reduceMul, Int.reduceEq, Int.reduceNe, Int.reduceLT, Int.reduceLE, Int.reduceGT, Int.reduceGE, h0, h3]
          exact fin_ok (Mem.le_refl _) ⟨.inl rfl, rfl⟩
        · simp -implicitDefEqProofs (maxSteps := 1000000) (disch := omega) only [↓xsP, ↓vc_seq, xsQ, xsT, xsR, xsD, ↓reduceIte, reduceCtorEq, eq_self, ne_eq, imp_self, forall_const, Nat.reduceEqDiff, Nat.reduceAdd, Nat.reduceSub, Nat.reduceMul, Nat.reduceLT, Nat.reduceLeDiff, Nat.reduceBEq, Nat.reduceDiv, Nat.reduceMod, Int.reduceToNat, Int.reduceNeg, Int.reduceAdd, Int.reduceSub, Int.reduceMul, Int.reduceEq, Int.reduceNe, Int.reduceLT, Int.reduceLE, Int.reduceGT, Int.reduceGE, h0, h3]
          refine fin_ok (Mem.le_refl _) ⟨.inr ⟨rfl, by omega, ?_⟩, rfl⟩
          have hil : i = h.length := by omega
          have hn' := hn (by omega)
          rw [hil, List.take_of_length_le (Nat.le_refl _)] at hn'
          omega
      · simp -implicitDefEqProofs (maxSteps := 1000000) (disch := omega) only [↓xsP, ↓vc_seq, xsQ, xsT, xsR, xsD, ↓reduceIte, reduceCtorEq, eq_self, ne_eq, imp_self, forall_const, Nat.reduceEqDiff, Nat.reduceAdd, Nat.reduceSub, Nat.reduceMul, Nat.reduceLT, Nat.reduceLeDiff, Nat.reduceBEq, Nat.reduceDiv, Nat.reduceMod, Int.reduceToNat, Int.reduceNeg, Int.reduceAdd, Int.reduceSub, Int.reduceMul, Int.reduceEq, Int.reduceNe, Int.reduceLT, Int.reduceLE, Int.reduceGT, Int.reduceGE, h0, h3, h6, h7, h8, hc]
        exact fin_ok (Mem.le_refl _) ⟨.inl rfl, rfl⟩
end Go.X
set_option linter.unusedVariables false
set_option linter.unusedSimpArgs false
set_option maxHeartbeats 20000000
set_option maxRecDepth 100000
namespace Go.X
open Go.Proofs.Tryd (prog)

theorem found9 {l : List Int} {ok : Bool} {e : Int} (hf : Found [] hist9 l ok e) : ok = true ∧ e = 0 ∧ l = [0, 1] := by
  have hok : ok = true := found_of hf (by rw [callsP_hist9]; decide) (m := [0, 1]) (by rw [right9a]; rfl)
  subst hok
  obtain ⟨h1, h2, -⟩ := found_right hf
  refine ⟨rfl, h2, ?_⟩
  obtain ⟨s, hs⟩ := Option.isSome_iff_exists.1 h1
  obtain ⟨_, _, h3, _, _⟩ := right_inv hs
  obtain ⟨g1, g2, g3⟩ := bof_iff.1 h3
  rw [callsP_hist9] at g1 g3
  have hm : (1 : Int) ∈ l := (g3 1 (by decide) (by decide)).2 rfl
  have hC : (C9.length : Int) = 2 := rfl
  match l, h1, g1, g2, hm with
  | [], _, _, _, hm => cases hm
  | x :: r, h1, g1, g2, hm =>
    have hx := g1 x (by simp)
    rw [hC] at hx
    have hx0 : x = 0 := by
      by_cases e : x = 1
      · rw [e, right9b] at h1
        cases h1
      · omega
    subst hx0
    rw [List.nodup_cons] at g2
    have hr : ∀ y ∈ r, y = 1 := fun y hy => by
      have := g1 y (by simp [hy])
      rw [hC] at this
      have h0 : y ≠ 0 := fun e => g2.1 (e ▸ hy)
      omega
    match r, g2.2, hr, hm with
    | [], _, _, hm => simp at hm
    | [y], _, hr, _ => rw [hr y (by simp)]
    | y :: z :: t, hn, hr, _ =>
      rw [hr y (by simp), hr z (by simp)] at hn
      simp at hn
def hist9g : List Evt := [⟨1, false, ⟨4, 1, 0, 0⟩, ans0⟩, ⟨1, true, ⟨4, 1, 0, 0⟩, ⟨0, true, ⟨1, 5⟩, 0, []⟩⟩]
def C9g : List Cl := [⟨1, 0, 1, ⟨4, 1, 0, 0⟩, ⟨0, true, ⟨1, 5⟩, 0, []⟩⟩]
theorem readP_hist9g : readP hist9g = some C9g := by
  simp [readP, hist9g, C9g, rrun, rstep, iget, iput, idel, mayOpB, List.getD]
theorem callsP_hist9g : callsP hist9g = C9g := by rw [callsP, readP_hist9g]; rfl
theorem small9g : Small hist9g := by
  refine ⟨by decide, fun x hx => ?_⟩
  simp only [hist9g, List.mem_cons, List.not_mem_nil, or_false] at hx
  rcases hx with rfl | rfl <;> decide
theorem found9g {l : List Int} {ok : Bool} {e : Int} (hf : Found [] hist9g l ok e) : ok = false := by
  cases ok with
  | false => rfl
  | true =>
    exfalso
    obtain ⟨h1, h2, -⟩ := found_right hf
    obtain ⟨s, hs⟩ := Option.isSome_iff_exists.1 h1
    obtain ⟨_, _, h3, _, h5⟩ := right_inv hs
    obtain ⟨g1, g2, g3⟩ := bof_iff.1 h3
    rw [callsP_hist9g] at g1 g3 h5
    have hm : (0 : Int) ∈ l := (g3 0 (by decide) (by decide)).2 rfl
    have hC : (C9g.length : Int) = 1 := rfl
    match l, g1, hm, h5 with
    | [], _, hm, _ => cases hm
    | x :: r, g1, _, h5 =>
      have hx := g1 x (by simp)
      rw [hC] at hx
      have hx0 : x = 0 := by omega
      subst hx0
      have hne : doA [] (clAt C9g 0).op ≠ (clAt C9g 0).ans := fun h => by
        have := congrArg Ans.ok h
        rw [show (clAt C9g 0).op = ⟨4, 1, 0, 0⟩ from rfl, get9'] at this
        cases this
      rw [show putL [] = [] from rfl, goesO, if_pos ⟨by decide, hne⟩] at h5
      cases h5
theorem ops9 : OpsOk (callsP hist9) := by
  rw [callsP_hist9]
  intro c hc
  simp only [C9, List.mem_cons, List.not_mem_nil, or_false] at hc
  rcases hc with rfl | rfl <;> exact ⟨⟨by decide, by decide⟩, by decide, by decide⟩
theorem ops9g : OpsOk (callsP hist9g) := by
  rw [callsP_hist9g]
  intro c hc
  simp only [C9g, List.mem_cons, List.not_mem_nil, or_false] at hc
  rcases hc with rfl <;> exact ⟨⟨by decide, by decide⟩, by decide, by decide⟩
theorem nilOk : AllOk [] := fun x hx => by cases hx
theorem awake20_spec (M : Mem) : XCalls Go.Proofs.Tryd.prog 11 [] M fun r M' => r = .l (.bool true) ∧ M' = M := by
  refine xcalls_intro (rs := [.tmp 0]) Go.Proofs.Tryd.func11 rfl (by kernel_rfl) rfl rfl (by kernel_rfl) (by simp) ?_
  simp -implicitDefEqProofs (maxSteps := 1000000) (disch := omega) only [↓xsP, ↓vc_seq, xsQ, xsT, xsR, xsD, ↓reduceIte, reduceCtorEq, eq_self, ne_eq, imp_self, forall_const, Nat.reduceEqDiff, Nat.reduceAdd, Nat.reduceSub, Nat.reduceMul, Nat.reduceLT, Nat.reduceLeDiff, Nat.reduceBEq, Nat.reduceDiv, Nat.reduceMod, Int.reduceToNat, Int.reduceNeg, Int.reduceAdd, Int.reduceSub, Int.reduceMul, Int.reduceEq, Int.reduceNe, Int.reduceLT, Int.reduceLE, Int.reduceGT, Int.reduceGE]
  refine newI_intro fun id1 hid1 => ?_
  simp -implicitDefEqProofs (maxSteps := 1000000) (disch := omega) only [↓xsP, ↓vc_seq, xsQ, xsT, xsR, xsD, ↓reduceIte, reduceCtorEq, eq_self, ne_eq, imp_self, forall_const, Nat.reduceEqDiff, Nat.reduceAdd, Nat.reduceSub, Nat.reduceMul, Nat.reduceLT, Nat.reduceLeDiff, Nat.reduceBEq, Nat.reduceDiv, Nat.reduceMod, Int.reduceToNat, Int.reduceNeg, Int.reduceAdd, Int.reduceSub, Int.reduceMul, Int.reduceEq, Int.reduceNe, Int.reduceLT, Int.reduceLE, Int.reduceGT, Int.reduceGE]
  refine newI_intro fun id2 hid2 => ?_
  obtain ⟨h12, hid2'⟩ := bnd_new hid2
  simp -implicitDefEqProofs (maxSteps := 1000000) (disch := omega) only [↓xsP, ↓vc_seq, xsQ, xsT, xsR, xsD, ↓reduceIte, reduceCtorEq, eq_self, ne_eq, imp_self, forall_const, Nat.reduceEqDiff, Nat.reduceAdd, Nat.reduceSub, Nat.reduceMul, Nat.reduceLT, Nat.reduceLeDiff, Nat.reduceBEq, Nat.reduceDiv, Nat.reduceMod, Int.reduceToNat, Int.reduceNeg, Int.reduceAdd, Int.reduceSub, Int.reduceMul, Int.reduceEq, Int.reduceNe, Int.reduceLT, Int.reduceLE, Int.reduceGT, Int.reduceGE]
  refine newI_intro fun idh hidh => ?_
  have key : ∀ (X1 X2 X3 X4 X5 : Blk) (N : Mem), ((((M.set id1 X1).set id2 X2).set id1 X3).set id2 X4).set idh X5 = N → N idh = some X5 ∧ M.le N ∧ (∀ j, idh + 1 ≤ j → N j = none) := by
    rintro X1 X2 X3 X4 X5 N rfl
    have e2 : id2 < idh := lt_of_bnd hidh (Mem.set_eq _ id2 _)
    refine ⟨Mem.set_eq _ _ _, fun k bk hk => ?_, fun j hj => ?_⟩
    · have := lt_of_bnd hid1 hk
      simp (disch := omega) only [Mem.set_ne, hk]
    · rw [Mem.set_ne _ _ _ _ (by omega), Mem.set_ne _ _ _ _ (by omega), Mem.set_ne _ _ _ _ (by omega), Mem.set_ne _ _ _ _ (by omega), Mem.set_ne _ _ _ _ (by omega)]
      exact hid1 j (by omega)
  simp -implicitDefEqProofs (maxSteps := 1000000) (disch := omega) only [↓xsP, ↓vc_seq, xsQ, xsT, xsR, xsD, ↓reduceIte, reduceCtorEq, eq_self, ne_eq, imp_self, forall_const, Nat.reduceEqDiff, Nat.reduceAdd, Nat.reduceSub, Nat.reduceMul, Nat.reduceLT, Nat.reduceLeDiff, Nat.reduceBEq, Nat.reduceDiv, Nat.reduceMod, Int.reduceToNat, Int.reduceNeg, Int.reduceAdd, Int.reduceSub, Int.reduceMul, Int.reduceEq, Int.reduceNe, Int.reduceLT, Int.reduceLE, Int.reduceGT, Int.reduceGE]
  generalize hN : Mem.set (Mem.set (Mem.set (Mem.set (Mem.set M _ _) _ _) _ _) _ _) _ _ = N
  obtain ⟨hNh, hle, hNb⟩ := key _ _ _ _ _ _ hN
  clear key hN
  refine callI_gs (GStep.keep' (rows' := hist9.map Evt.row) hNh rfl) ?_
  have hQ : ∃ Q, Q = N.set idh (.cells 36 (hist9.map Evt.row) (hist9.map Evt.row).length) ∧ Q idh = some (.cells 36 (hist9.map Evt.row) 3) ∧ M.le Q := by
    refine ⟨_, rfl, Mem.set_eq _ _ _, fun k bk hk => ?_⟩
    have := lt_of_bnd hid1 hk
    have := lt_of_bnd hidh (Mem.set_eq _ id2 _)
    rw [Mem.set_ne _ _ _ _ (by omega)]
    exact hle _ _ hk
  obtain ⟨Q, eQ, hQh, hMQ⟩ := hQ
  rw [← eQ]
  refine callI_of ((XCalls.rd (.cons (.inr ⟨_, _, rfl, rfl, Rd.nils _⟩) (.cons (.inr ⟨_, _, rfl, rfl, Rd.ms hQh (by decide) rfl⟩) .nil)) (lfind_spec [] hist9 (by decide) nilOk small9 ops9 Q)).mono ?_)
  rintro _ Q ⟨rfl, l, ok, e, hF, rfl⟩
  obtain ⟨rfl, rfl, rfl⟩ := found9 hF
  simp -implicitDefEqProofs (maxSteps := 1000000) (disch := omega) only [↓xsP, ↓vc_seq, xsQ, xsT, xsR, xsD, ↓reduceIte, reduceCtorEq, eq_self, ne_eq, imp_self, forall_const, Nat.reduceEqDiff, Nat.reduceAdd, Nat.reduceSub, Nat.reduceMul, Nat.reduceLT, Nat.reduceLeDiff, Nat.reduceBEq, Nat.reduceDiv, Nat.reduceMod, Int.reduceToNat, Int.reduceNeg, Int.reduceAdd, Int.reduceSub, Int.reduceMul, Int.reduceEq, Int.reduceNe, Int.reduceLT, Int.reduceLE, Int.reduceGT, Int.reduceGE, hQh]
  refine newI_intro fun ida hida => ?_
  have ka := lt_of_bnd hida hQh
  simp -implicitDefEqProofs (maxSteps := 1000000) (disch := omega) only [↓xsP, ↓vc_seq, xsQ, xsT, xsR, xsD, ↓reduceIte, reduceCtorEq, eq_self, ne_eq, imp_self, forall_const, Nat.reduceEqDiff, Nat.reduceAdd, Nat.reduceSub, Nat.reduceMul, Nat.reduceLT, Nat.reduceLeDiff, Nat.reduceBEq, Nat.reduceDiv, Nat.reduceMod, Int.reduceToNat, Int.reduceNeg, Int.reduceAdd, Int.reduceSub, Int.reduceMul, Int.reduceEq, Int.reduceNe, Int.reduceLT, Int.reduceLE, Int.reduceGT, Int.reduceGE, hQh]
  refine app_ms _ _ _ _ 36 _ _ ti_23 rfl ti_36 (by kernel_rfl) (by decide) ida 0 _ (rows := []) (keep := 0) (hist9g.map Evt.row) (Mem.set_eq _ _ _) ?_ (Nat.le_refl _) (Nat.zero_le _) ?_ ?_ (fun idb hidb => ?_)
  · have hq : (Q.set ida (.cells 36 [] 0)) idh = some (.cells 36 (hist9.map Evt.row) 3) := by rw [Mem.set_ne _ _ _ _ (by omega)]; exact hQh
    unfold srcRows
    rw [if_pos rfl]
    simp only [hq]
    exact if_pos ⟨trivial, by decide⟩
  · decide
  · decide
  obtain ⟨kb, hidb'⟩ := bnd_new hidb
  have hR : ∃ R, R = ((Q.set ida (.cells 36 [] 0)).del ida).set idb (.cells 36 (hist9g.map Evt.row) 0) ∧ R idb = some (.cells 36 (hist9g.map Evt.row) 0) ∧ R idh = some (.cells 36 (hist9.map Evt.row) 3) ∧ M.le R ∧ idh < idb ∧ M idb = none := by
    refine ⟨_, rfl, Mem.set_eq _ _ _, ?_, fun k bk hk => ?_, by omega, ?_⟩
    · rw [Mem.set_ne _ _ _ _ (by omega), Mem.del_ne _ _ _ (by omega), Mem.set_ne _ _ _ _ (by omega)]
      exact hQh
    · have h1 := hMQ _ _ hk
      have := lt_of_bnd hida h1
      rw [Mem.set_ne _ _ _ _ (by omega), Mem.del_ne _ _ _ (by omega), Mem.set_ne _ _ _ _ (by omega)]
      exact h1
    · cases hm : M idb with
      | none => rfl
      | some bk => have := lt_of_bnd hida (hMQ _ _ hm); omega
  obtain ⟨R, eR, hRb, hRh, hMR, khb, hMb⟩ := hR
  rw [List.take_zero, List.nil_append, ← eR]
  clear eR
  have hix : ∀ X : Mem, indexAddrA Go.Proofs.Tryd.prog X 40 (.l (.sl [[.int .i64 0], [.int .i64 1]])) (.l (.int .i64 0)) = some (.l (.rp [.int .i64 0])) := fun X => by
    unfold indexAddrA
    rw [ti_40]
    simp only [ti_3]
    rfl
  simp -implicitDefEqProofs (maxSteps := 1000000) (disch := omega) only [↓xsP, ↓vc_seq, xsQ, xsT, xsR, xsD, ↓reduceIte, reduceCtorEq, eq_self, ne_eq, imp_self, forall_const, Nat.reduceEqDiff, Nat.reduceAdd, Nat.reduceSub, Nat.reduceMul, Nat.reduceLT, Nat.reduceLeDiff, Nat.reduceBEq, Nat.reduceDiv, Nat.reduceMod, Int.reduceToNat, Int.reduceNeg, Int.reduceAdd, Int.reduceSub, Int.reduceMul, Int.reduceEq, Int.reduceNe, Int.reduceLT, Int.reduceLE, Int.reduceGT, Int.reduceGE, hRb, hRh, Int.cast_ofNat_Int, hix]
  refine callI_of ((XCalls.rd (.cons (.inr ⟨_, _, rfl, rfl, Rd.nils _⟩) (.cons (.inr ⟨_, _, rfl, rfl, Rd.ms hRh (by decide) rfl⟩) .nil)) (lany_spec [] hist9 (by decide) nilOk small9 ops9 R)).mono ?_)
  rintro _ R ⟨rfl, l1, ok1, e1, hF1, rfl⟩
  obtain ⟨rfl, -, -⟩ := found9 hF1
  simp -implicitDefEqProofs (maxSteps := 1000000) (disch := omega) only [↓xsP, ↓vc_seq, xsQ, xsT, xsR, xsD, ↓reduceIte, reduceCtorEq, eq_self, ne_eq, imp_self, forall_const, Nat.reduceEqDiff, Nat.reduceAdd, Nat.reduceSub, Nat.reduceMul, Nat.reduceLT, Nat.reduceLeDiff, Nat.reduceBEq, Nat.reduceDiv, Nat.reduceMod, Int.reduceToNat, Int.reduceNeg, Int.reduceAdd, Int.reduceSub, Int.reduceMul, Int.reduceEq, Int.reduceNe, Int.reduceLT, Int.reduceLE, Int.reduceGT, Int.reduceGE, hRb, hRh]
  refine callI_gs (GStep.frz hRb) ?_
  refine callI_of ((XCalls.rd (.cons (.inr ⟨_, _, rfl, rfl, Rd.nils _⟩) (.cons (.inr ⟨_, _, rfl, rfl, Rd.ms (Mem.set_eq _ _ _) (Nat.le_max_right _ _) rfl⟩) .nil)) (lany_spec [] hist9g (by decide) nilOk small9g ops9g _)).mono ?_)
  rintro _ _ ⟨rfl, l2, ok2, e2, hF2, rfl⟩
  rw [found9g hF2]
  simp -implicitDefEqProofs (maxSteps := 1000000) (disch := omega) only [↓xsP, ↓vc_seq, xsQ, xsT, xsR, xsD, ↓reduceIte, reduceCtorEq, eq_self, ne_eq, imp_self, forall_const, Nat.reduceEqDiff, Nat.reduceAdd, Nat.reduceSub, Nat.reduceMul, Nat.reduceLT, Nat.reduceLeDiff, Nat.reduceBEq, Nat.reduceDiv, Nat.reduceMod, Int.reduceToNat, Int.reduceNeg, Int.reduceAdd, Int.reduceSub, Int.reduceMul, Int.reduceEq, Int.reduceNe, Int.reduceLT, Int.reduceLE, Int.reduceGT, Int.reduceGE]
  refine fin_ok (fun k bk hk => ?_) ⟨rfl, rfl⟩
  rw [Mem.set_ne _ _ _ _ (fun e => by rw [← e, hMb] at hk; cases hk)]
  exact hMR _ _ hk
def calN (h : List Evt) : Nat := (h.filter fun e => !e.ret).length
theorem short_spec (h : List Evt) (hl : h.length ≤ 140737488355328) (hp : ∀ x ∈ h, x.ans.pairs.length ≤ 140737488355328) (M : Mem) :
    XCalls Go.Proofs.Tryd.prog 9 [.l (.sl (h.map Evt.row))] M fun r M' => (∃ b : Bool, r = .l (.bool b) ∧ (b = true → LightOk h ∧ calN h ≤ 9)) ∧ M' = M := by
  refine xcalls_intro (rs := [.tmp 2]) Go.Proofs.Tryd.func9 rfl (by kernel_rfl) rfl rfl (by kernel_rfl) (by simp) ?_
  simp -implicitDefEqProofs (maxSteps := 1000000) (disch := omega) only [↓xsP, ↓vc_seq, xsQ, xsT, xsR, xsD, ↓reduceIte, reduceCtorEq, eq_self, ne_eq, imp_self, forall_const, Nat.reduceEqDiff, Nat.reduceAdd, Nat.reduceSub, Nat.reduceMul, Nat.reduceLT, Nat.reduceLeDiff, Nat.reduceBEq, Nat.reduceDiv, Nat.reduceMod, Int.reduceToNat, Int.reduceNeg, Int.reduceAdd, Int.reduceSub, Int.reduceMul, Int.reduceEq, Int.reduceNe, Int.reduceLT, Int.reduceLE, Int.reduceGT, Int.reduceGE]
  refine loopI_of (xloop (by kernel_rfl) (fun k fr M' => ∃ i : Nat, i ≤ h.length ∧ k = h.length - i ∧ fr 0 = .l (.sl (h.map Evt.row)) ∧ fr 3 = .l (.int .i64 (calN (h.take i))) ∧ fr 6 = .l (.sl (h.map Evt.row)) ∧ fr 7 = .l (.int .i64 h.length) ∧ fr 8 = .l (.int .i64 i) ∧ M' = M) h.length ?_ ?_)
  · exact ⟨0, Nat.zero_le _, rfl, by simp -implicitDefEqProofs (maxSteps := 1000000) (disch := omega) only [↓xsP, ↓vc_seq, xsQ, xsT, xsR, xsD, ↓reduceIte, reduceCtorEq, eq_self, ne_eq, imp_self, forall_const, Nat.reduceEqDiff, Nat.reduceAdd, Nat.reduceSub, Nat.reduceMul, Nat.reduceLT, Nat.reduceLeDiff, Nat.reduceBEq, Nat.reduceDiv, Nat.reduceMod, Int.reduceToNat, Int.reduceNeg, Int.reduceAdd, Int.reduceSub, Int.reduceMul, Int.reduceEq, Int.reduceNe, Int.reduceLT, Int.reduceLE, Int.reduceGT, Int.reduceGE], by simp -implicitDefEqProofs (maxSteps := 1000000) (disch := omega) only [↓xsP, ↓vc_seq, xsQ, xsT, xsR, xsD, ↓reduceIte, reduceCtorEq, eq_self, ne_eq, imp_self, forall_const, Nat.reduceEqDiff, Nat.reduceAdd, Nat.reduceSub, Nat.reduceMul, Nat.reduceLT, Nat.reduceLeDiff, Nat.reduceBEq, Nat.reduceDiv, Nat.reduceMod, Int.reduceToNat, Int.reduceNeg, Int.reduceAdd, Int.reduceSub, Int.reduceMul, Int.reduceEq, Int.reduceNe, Int.reduceLT, Int.reduceLE, Int.reduceGT, Int.reduceGE, calN, List.filter_nil, Int.cast_ofNat_Int], by simp -implicitDefEqProofs (maxSteps := 1000000) (disch := omega) only [↓xsP, ↓vc_seq, xsQ, xsT, xsR, xsD, ↓reduceIte, reduceCtorEq, eq_self, ne_eq, imp_self, forall_const, Nat.reduceEqDiff, Nat.reduceAdd, Nat.reduceSub, Nat.reduceMul, Nat.reduceLT, Nat.reduceLeDiff, Nat.reduceBEq, Nat.reduceDiv, Nat.reduceMod, Int.reduceToNat, Int.reduceNeg, Int.reduceAdd, Int.reduceSub, Int.reduceMul, Int.reduceEq, Int.reduceNe, Int.reduceLT, Int.reduceLE, Int.reduceGT, Int.reduceGE], by simp -implicitDefEqProofs (maxSteps := 1000000) (disch := omega) only [↓xsP, ↓vc_seq, xsQ, xsT, xsR, xsD, ↓reduceIte, reduceCtorEq, eq_self, ne_eq, imp_self, forall_const, Nat.reduceEqDiff, Nat.reduceAdd, Nat.reduceSub, Nat.reduceMul, Nat.reduceLT, Nat.reduceLeDiff, Nat.reduceBEq, Nat.reduceDiv, Nat.reduceMod, Int.reduceToNat, Int.reduceNeg, Int.reduceAdd, Int.reduceSub, Int.reduceMul, Int.reduceEq, Int.reduceNe, Int.reduceLT, Int.reduceLE, Int.reduceGT, Int.reduceGE], by simp -implicitDefEqProofs (maxSteps := 1000000) (disch := omega) only [↓xsP, ↓vc_seq, xsQ, xsT, xsR, xsD, ↓reduceIte, reduceCtorEq, eq_self, ne_eq, imp_self, forall_const, Nat.reduceEqDiff, Nat.reduceAdd, Nat.reduceSub, Nat.reduceMul, Nat.reduceLT, Nat.reduceLeDiff, Nat.reduceBEq, Nat.reduceDiv, Nat.reduceMod, Int.reduceToNat, Int.reduceNeg, Int.reduceAdd, Int.reduceSub, Int.reduceMul, Int.reduceEq, Int.reduceNe, Int.reduceLT, Int.reduceLE, Int.reduceGT, Int.reduceGE, Int.cast_ofNat_Int], rfl⟩
  · rintro k fr M2 ⟨i, hi, rfl, f0, f3, f6, f7, f8, rfl⟩
    have hcn : calN (h.take i) ≤ i := by
      have := List.length_filter_le (fun e : Evt => !e.ret) (h.take i)
      rw [List.length_take] at this
      exact Nat.le_trans this (Nat.min_le_left _ _)
    simp -implicitDefEqProofs (maxSteps := 1000000) (disch := omega) only [↓xsP, ↓vc_seq, xsQ, xsT, xsR, xsD, ↓reduceIte, reduceCtorEq, eq_self, ne_eq, imp_self, forall_const, Nat.reduceEqDiff, Nat.reduceAdd, Nat.reduceSub, Nat.reduceMul, Nat.reduceLT, Nat.reduceLeDiff, Nat.reduceBEq, Nat.reduceDiv, Nat.reduceMod, Int.reduceToNat, Int.reduceNeg, Int.reduceAdd, Int.reduceSub, Int.reduceMul, Int.reduceEq, Int.reduceNe, Int.reduceLT, Int.reduceLE, Int.reduceGT, Int.reduceGE, f0, f3, f6, f7, f8]
    refine condI_prop (fun hlt => ?_) (fun hlt => ?_)
    · have hil : i < h.length := by omega
      obtain ⟨e, he⟩ : ∃ e, h.getD i default = e := ⟨_, rfl⟩
      have hnx : calN (h.take (i + 1)) = calN (h.take i) + (if e.ret = true then 0 else 1) := by
        rw [calN, take_sc h default hil, List.filter_append, List.length_append, ← calN, he]
        cases hr : e.ret <;> simp [hr]
      simp -implicitDefEqProofs (maxSteps := 1000000) (disch := omega) only [↓xsP, ↓vc_seq, xsQ, xsT, xsR, xsD, ↓reduceIte, reduceCtorEq, eq_self, ne_eq, imp_self, forall_const, Nat.reduceEqDiff, Nat.reduceAdd, Nat.reduceSub, Nat.reduceMul, Nat.reduceLT, Nat.reduceLeDiff, Nat.reduceBEq, Nat.reduceDiv, Nat.reduceMod, Int.reduceToNat, Int.reduceNeg, Int.reduceAdd, Int.reduceSub, Int.reduceMul, Int.reduceEq, Int.reduceNe, Int.reduceLT, Int.reduceLE, Int.reduceGT, Int.reduceGE, f0, f3, f6, f7, f8, he]
      refine newI_intro fun id5 hid5 => ?_
      simp -implicitDefEqProofs (maxSteps := 1000000) (disch := omega) only [↓xsP, ↓vc_seq, xsQ, xsT, xsR, xsD, ↓reduceIte, reduceCtorEq, eq_self, ne_eq, imp_self, forall_const, Nat.reduceEqDiff, Nat.reduceAdd, Nat.reduceSub, Nat.reduceMul, Nat.reduceLT, Nat.reduceLeDiff, Nat.reduceBEq, Nat.reduceDiv, Nat.reduceMod, Int.reduceToNat, Int.reduceNeg, Int.reduceAdd, Int.reduceSub, Int.reduceMul, Int.reduceEq, Int.reduceNe, Int.reduceLT, Int.reduceLE, Int.reduceGT, Int.reduceGE, f0, f3, f6, f7, f8, he]
      cases hr : e.ret with
      | true =>
        rw [hr] at hnx
        simp -implicitDefEqProofs (maxSteps := 1000000) (disch := omega) only [↓xsP, ↓vc_seq, xsQ, xsT, xsR, xsD, ↓reduceIte, reduceCtorEq, eq_self, ne_eq, imp_self, forall_const, Nat.reduceEqDiff, Nat.reduceAdd, Nat.reduceSub, Nat.reduceMul, Nat.reduceLT, Nat.reduceLeDiff, Nat.reduceBEq, Nat.reduceDiv, Nat.reduceMod, Int.reduceToNat, Int.reduceNeg, Int.reduceAdd, Int.reduceSub, Int.reduceMul, Int.reduceEq, Int.reduceNe, Int.reduceLT, Int.reduceLE, Int.reduceGT, Int.reduceGE, f0, f3, f6, f7, f8, he]
        exact ⟨h.length - (i + 1), M2, by omega, le_new (Mem.le_refl _) hid5, i + 1, by omega, rfl, by rw [hnx]; rfl, by simp, rfl⟩
      | false =>
        rw [hr] at hnx
        simp -implicitDefEqProofs (maxSteps := 1000000) (disch := omega) only [↓xsP, ↓vc_seq, xsQ, xsT, xsR, xsD, ↓reduceIte, reduceCtorEq, eq_self, ne_eq, imp_self, forall_const, Nat.reduceEqDiff, Nat.reduceAdd, Nat.reduceSub, Nat.reduceMul, Nat.reduceLT, Nat.reduceLeDiff, Nat.reduceBEq, Nat.reduceDiv, Nat.reduceMod, Int.reduceToNat, Int.reduceNeg, Int.reduceAdd, Int.reduceSub, Int.reduceMul, Int.reduceEq, Int.reduceNe, Int.reduceLT, Int.reduceLE, Int.reduceGT, Int.reduceGE, f0, f3, f6, f7, f8, he]
        exact ⟨h.length - (i + 1), M2, by omega, le_new (Mem.le_refl _) hid5, i + 1, by omega, rfl, by rw [hnx]; simp, by simp, rfl⟩
    · have hil : i = h.length := by omega
      subst hil
      rw [List.take_of_length_le (Nat.le_refl _)] at f3 hcn
      simp -implicitDefEqProofs (maxSteps := 1000000) (disch := omega) only [↓xsP, ↓vc_seq, xsQ, xsT, xsR, xsD, ↓reduceIte, reduceCtorEq, eq_self, ne_eq, imp_self, forall_const, Nat.reduceEqDiff, Nat.reduceAdd, Nat.reduceSub, Nat.reduceMul, Nat.reduceLT, Nat.reduceLeDiff, Nat.reduceBEq, Nat.reduceDiv, Nat.reduceMod, Int.reduceToNat, Int.reduceNeg, Int.reduceAdd, Int.reduceSub, Int.reduceMul, Int.reduceEq, Int.reduceNe, Int.reduceLT, Int.reduceLE, Int.reduceGT, Int.reduceGE, f0, f3, f6, f7, f8]
      refine callI_of ((light_spec h hl hp _).mono ?_)
      rintro _ _ ⟨rfl | ⟨rfl, hL⟩, rfl⟩
      · simp -implicitDefEqProofs (maxSteps := 1000000) (disch := omega) only [↓xsP, ↓vc_seq, xsQ, xsT, xsR, xsD, ↓reduceIte, reduceCtorEq, eq_self, ne_eq, imp_self, forall_const, Nat.reduceEqDiff, Nat.reduceAdd, Nat.reduceSub, Nat.reduceMul, Nat.reduceLT, Nat.reduceLeDiff, Nat.reduceBEq, Nat.reduceDiv, Nat.reduceMod, Int.reduceToNat, Int.reduceNeg, Int.reduceAdd, Int.reduceSub, Int.reduceMul, Int.reduceEq, Int.reduceNe, Int.reduceLT, Int.reduceLE, Int.reduceGT, Int.reduceGE, f0, f3, f6, f7, f8]
        exact fin_ok (Mem.le_refl _) ⟨⟨false, rfl, fun h => by cases h⟩, rfl⟩
      · simp -implicitDefEqProofs (maxSteps := 1000000) (disch := omega) only [↓xsP, ↓vc_seq, xsQ, xsT, xsR, xsD, ↓reduceIte, reduceCtorEq, eq_self, ne_eq, imp_self, forall_const, Nat.reduceEqDiff, Nat.reduceAdd, Nat.reduceSub, Nat.reduceMul, Nat.reduceLT, Nat.reduceLeDiff, Nat.reduceBEq, Nat.reduceDiv, Nat.reduceMod, Int.reduceToNat, Int.reduceNeg, Int.reduceAdd, Int.reduceSub, Int.reduceMul, Int.reduceEq, Int.reduceNe, Int.reduceLT, Int.reduceLE, Int.reduceGT, Int.reduceGE, f0, f3, f6, f7, f8]
        refine fin_ok (Mem.le_refl _) ⟨⟨_, rfl, fun hd => ⟨hL, ?_⟩⟩, rfl⟩
        have := of_decide_eq_true hd
        omega
end Go.X
set_option linter.unusedVariables false
set_option linter.unusedSimpArgs false
set_option maxRecDepth 100000
namespace Go.X

def nbeg : List Evt → Nat
  | [] => 0
  | x :: r => (if x.ret then 0 else 1) + nbeg r
def nret : List Evt → Nat
  | [] => 0
  | x :: r => (if x.ret then 1 else 0) + nret r
def nfin : List Cl → Nat
  | [] => 0
  | c :: r => (if 0 ≤ c.fin then 1 else 0) + nfin r
theorem nbeg_app (a b : List Evt) : nbeg (a ++ b) = nbeg a + nbeg b := by
  induction a with
  | nil => simp [nbeg]
  | cons x a ih => simp only [List.cons_append, nbeg, ih]; omega
theorem nret_app (a b : List Evt) : nret (a ++ b) = nret a + nret b := by
  induction a with
  | nil => simp [nret]
  | cons x a ih => simp only [List.cons_append, nret, ih]; omega
theorem nfin_app (a b : List Cl) : nfin (a ++ b) = nfin a + nfin b := by
  induction a with
  | nil => simp [nfin]
  | cons x a ih => simp only [List.cons_append, nfin, ih]; omega
theorem nfin_set : ∀ (l : List Cl) (k : Nat) (c : Cl), k < l.length → (l.getD k default).fin < 0 → 0 ≤ c.fin → nfin (l.set k c) = nfin l + 1
  | [], k, c, hk, _, _ => by simp at hk
  | x :: r, 0, c, _, h1, h2 => by
    simp only [List.getD_cons_zero] at h1
    simp only [List.set_cons_zero, nfin, if_pos h2]
    rw [if_neg (by omega)]
    omega
  | x :: r, k + 1, c, hk, h1, h2 => by
    have := nfin_set r k c (by simpa using hk) (by simpa using h1) h2
    simp only [List.set_cons_succ, nfin, this]
    omega
theorem take_succ {h : List Evt} {i : Nat} (hi : i < h.length) : h.take (i + 1) = h.take i ++ [h.getD i default] := by
  rw [List.take_add_one, List.getD_eq_getElem?_getD, List.getElem?_eq_getElem hi]
  rfl
theorem counts {h : List Evt} (hok : okP h = true) : (callsP h).length = nbeg h ∧ nfin (callsP h) = nret h := by
  obtain ⟨ms, hr, _⟩ := okP_inv hok
  have key := rrun_inv (h := h) (Q := fun i s => HInv h i s ∧ s.1.length = nbeg (h.take i) ∧ nfin s.1 = nret (h.take i)) ⟨HInv.zero h, by simp [nbeg], by simp [nret, nfin]⟩ (fun i s s' hi ⟨I, h1, h2⟩ hs => by
    refine ⟨I.step hi hs, ?_⟩
    obtain ⟨out, ms⟩ := s
    obtain ⟨_, _, hc⟩ := rstep_cases I hs
    simp only at h1 h2
    rw [take_succ hi, nbeg_app, nret_app, ← h1, ← h2]
    rcases hc with ⟨hret, _, _, _, rfl⟩ | ⟨hret, k0, hk0, _, _, hfin, _, rfl⟩
    · simp [nbeg, nret, hret, nfin_app, nfin, -List.getD_eq_getElem?_getD]
    · simp only [nbeg, nret, hret, if_true, List.length_set]
      rw [nfin_set _ _ _ hk0 (by omega) (by simp)]
      omega) hr
  rw [List.take_of_length_le (Nat.le_refl _)] at key
  exact key.2
theorem not_ok {h : List Evt} (hok : okP h = false) : callsP h = [] ∧ overP h = false ∧ soloP h = false := by
  refine ⟨?_, by rw [overP, hok]; rfl, by rw [soloP, hok]; rfl⟩
  unfold okP at hok
  unfold callsP
  cases hr : readP h with
  | none => rfl
  | some l => rw [hr] at hok; cases hok
end Go.X
set_option linter.unusedVariables false
set_option linter.unusedSimpArgs false
set_option maxHeartbeats 20000000
set_option maxRecDepth 100000
namespace Go.X
open Go.Proofs.Tryd (prog)

theorem calN_nbeg : ∀ h : List Evt, calN h = nbeg h
  | [] => rfl
  | e :: h => by
    have ih := calN_nbeg h
    rw [calN] at ih
    cases hr : e.ret <;> simp [calN, nbeg, hr, ih] <;> omega
theorem calls_le {h : List Evt} (hc : calN h ≤ 9) : (callsP h).length ≤ 9 := by
  cases hok : okP h with
  | true => rw [(counts hok).1, ← calN_nbeg]; exact hc
  | false => rw [(not_ok hok).1]; exact Nat.zero_le _
def EvsOk (h : List Evt) : Prop := ∀ x ∈ h, x.ans.pairs.length ≤ 140737488355328 ∧ IntOk' x.op.key ∧ IntOk' x.op.val
theorem ops_ok {h : List Evt} (hi : ∀ x ∈ h, IntOk' x.op.key ∧ IntOk' x.op.val) : OpsOk (callsP h) := by
  cases hok : okP h with
  | false =>
    rw [(not_ok hok).1]
    exact fun c hc => by cases hc
  | true =>
    obtain ⟨ms, hr, I⟩ := okP_inv hok
    intro c hc
    obtain ⟨k, hk, rfl⟩ := List.getElem_of_mem hc
    obtain ⟨b, h1, _, _, _, h2⟩ := I.beg k hk
    simp only at h2
    have e : (callsP h).getD k default = (callsP h)[k] := by rw [List.getD_eq_getElem?_getD, List.getElem?_eq_getElem hk]; rfl
    rw [e] at h2
    rw [← h2]
    exact hi _ (getD_mem' h default h1)
theorem found_len {b : List Pr} {h : List Evt} {l : List Int} {e : Int} (hf : Found b h l true e) : l.length ≤ (callsP h).length := by
  cases hf with
  | some ha hc =>
    rename_i l
    obtain ⟨h1, h2, _⟩ := comp_sound hc
    rw [ixs, List.length_map]
    have := h2.length_le_of_subset (l₂ := List.range (callsP h).length) fun x hx => List.mem_range.2 (h1 x hx).1
    rwa [List.length_range] at this
theorem linFinds_walk (b : List Pr) (h : List Evt) (hb : b.length ≤ 140737488355328) (hbi : ∀ p ∈ b, IntOk' p.key ∧ IntOk' p.val) (hl : h.length ≤ 140737488355328) (hp : EvsOk h) (M : Mem) :
    XCalls Go.Proofs.Tryd.prog 8 [.l (.sl (b.map Pr.row)), .l (.sl (h.map Evt.row))] M fun r M' => r = .l (.bool true) ∧ M' = M := by
  refine xcalls_intro (rs := [.tmp 4]) Go.Proofs.Tryd.func8 rfl (by kernel_rfl) rfl rfl (by kernel_rfl) (by simp) ?_
  simp -implicitDefEqProofs (maxSteps := 1000000) (disch := omega) only [↓xsP, ↓vc_seq, xsQ, xsT, xsR, xsD, ↓reduceIte, reduceCtorEq, eq_self, ne_eq, imp_self, forall_const, Nat.reduceEqDiff, Nat.reduceAdd, Nat.reduceSub, Nat.reduceMul, Nat.reduceLT, Nat.reduceLeDiff, Nat.reduceBEq, Nat.reduceDiv, Nat.reduceMod, Int.reduceToNat, Int.reduceNeg, Int.reduceAdd, Int.reduceSub, Int.reduceMul, Int.reduceEq, Int.reduceNe, Int.reduceLT, Int.reduceLE, Int.reduceGT, Int.reduceGE]
  refine callI_of ((short_spec h hl (fun x hx => (hp x hx).1) _).mono ?_)
  rintro _ M ⟨⟨bo, rfl, hbo⟩, rfl⟩
  have hawake : ∀ {K : AV → Mem → Prop}, K (.l (.bool true)) M → @callI Go.Proofs.Tryd.prog 11 [] M ⟨K⟩ := fun h => call_of (awake20_spec _) h
  cases bo with
  | false =>
    simp -implicitDefEqProofs (maxSteps := 1000000) (disch := omega) only [↓xsP, ↓vc_seq, xsQ, xsT, xsR, xsD, ↓reduceIte, reduceCtorEq, eq_self, ne_eq, imp_self, forall_const, Nat.reduceEqDiff, Nat.reduceAdd, Nat.reduceSub, Nat.reduceMul, Nat.reduceLT, Nat.reduceLeDiff, Nat.reduceBEq, Nat.reduceDiv, Nat.reduceMod, Int.reduceToNat, Int.reduceNeg, Int.reduceAdd, Int.reduceSub, Int.reduceMul, Int.reduceEq, Int.reduceNe, Int.reduceLT, Int.reduceLE, Int.reduceGT, Int.reduceGE]
    refine call_of (awake20_spec _) ?_
    simp -implicitDefEqProofs (maxSteps := 1000000) (disch := omega) only [↓xsP, ↓vc_seq, xsQ, xsT, xsR, xsD, ↓reduceIte, reduceCtorEq, eq_self, ne_eq, imp_self, forall_const, Nat.reduceEqDiff, Nat.reduceAdd, Nat.reduceSub, Nat.reduceMul, Nat.reduceLT, Nat.reduceLeDiff, Nat.reduceBEq, Nat.reduceDiv, Nat.reduceMod, Int.reduceToNat, Int.reduceNeg, Int.reduceAdd, Int.reduceSub, Int.reduceMul, Int.reduceEq, Int.reduceNe, Int.reduceLT, Int.reduceLE, Int.reduceGT, Int.reduceGE]
    exact fin_ok (Mem.le_refl _) ⟨rfl, rfl⟩
  | true =>
  obtain ⟨hL, hc⟩ := hbo rfl
  simp -implicitDefEqProofs (maxSteps := 1000000) (disch := omega) only [↓xsP, ↓vc_seq, xsQ, xsT, xsR, xsD, ↓reduceIte, reduceCtorEq, eq_self, ne_eq, imp_self, forall_const, Nat.reduceEqDiff, Nat.reduceAdd, Nat.reduceSub, Nat.reduceMul, Nat.reduceLT, Nat.reduceLeDiff, Nat.reduceBEq, Nat.reduceDiv, Nat.reduceMod, Int.reduceToNat, Int.reduceNeg, Int.reduceAdd, Int.reduceSub, Int.reduceMul, Int.reduceEq, Int.reduceNe, Int.reduceLT, Int.reduceLE, Int.reduceGT, Int.reduceGE]
  refine condI_prop (fun hgt => ?_) (fun hgt => ?_)
  · simp -implicitDefEqProofs (maxSteps := 1000000) (disch := omega) only [↓xsP, ↓vc_seq, xsQ, xsT, xsR, xsD, ↓reduceIte, reduceCtorEq, eq_self, ne_eq, imp_self, forall_const, Nat.reduceEqDiff, Nat.reduceAdd, Nat.reduceSub, Nat.reduceMul, Nat.reduceLT, Nat.reduceLeDiff, Nat.reduceBEq, Nat.reduceDiv, Nat.reduceMod, Int.reduceToNat, Int.reduceNeg, Int.reduceAdd, Int.reduceSub, Int.reduceMul, Int.reduceEq, Int.reduceNe, Int.reduceLT, Int.reduceLE, Int.reduceGT, Int.reduceGE]
    refine call_of (awake20_spec _) ?_
    simp -implicitDefEqProofs (maxSteps := 1000000) (disch := omega) only [↓xsP, ↓vc_seq, xsQ, xsT, xsR, xsD, ↓reduceIte, reduceCtorEq, eq_self, ne_eq, imp_self, forall_const, Nat.reduceEqDiff, Nat.reduceAdd, Nat.reduceSub, Nat.reduceMul, Nat.reduceLT, Nat.reduceLeDiff, Nat.reduceBEq, Nat.reduceDiv, Nat.reduceMod, Int.reduceToNat, Int.reduceNeg, Int.reduceAdd, Int.reduceSub, Int.reduceMul, Int.reduceEq, Int.reduceNe, Int.reduceLT, Int.reduceLE, Int.reduceGT, Int.reduceGE]
    exact fin_ok (Mem.le_refl _) ⟨rfl, rfl⟩
  have hsm := hL.small
  have hcl := calls_le hc
  have hoo := ops_ok fun x hx => (hp x hx).2
  simp -implicitDefEqProofs (maxSteps := 1000000) (disch := omega) only [↓xsP, ↓vc_seq, xsQ, xsT, xsR, xsD, ↓reduceIte, reduceCtorEq, eq_self, ne_eq, imp_self, forall_const, Nat.reduceEqDiff, Nat.reduceAdd, Nat.reduceSub, Nat.reduceMul, Nat.reduceLT, Nat.reduceLeDiff, Nat.reduceBEq, Nat.reduceDiv, Nat.reduceMod, Int.reduceToNat, Int.reduceNeg, Int.reduceAdd, Int.reduceSub, Int.reduceMul, Int.reduceEq, Int.reduceNe, Int.reduceLT, Int.reduceLE, Int.reduceGT, Int.reduceGE]
  refine callI_of ((rany_spec b h (by omega) hbi hsm hoo _).mono ?_)
  rintro _ M ⟨rfl, want, f, rfl, hw⟩
  simp -implicitDefEqProofs (maxSteps := 1000000) (disch := omega) only [↓xsP, ↓vc_seq, xsQ, xsT, xsR, xsD, ↓reduceIte, reduceCtorEq, eq_self, ne_eq, imp_self, forall_const, Nat.reduceEqDiff, Nat.reduceAdd, Nat.reduceSub, Nat.reduceMul, Nat.reduceLT, Nat.reduceLeDiff, Nat.reduceBEq, Nat.reduceDiv, Nat.reduceMod, Int.reduceToNat, Int.reduceNeg, Int.reduceAdd, Int.reduceSub, Int.reduceMul, Int.reduceEq, Int.reduceNe, Int.reduceLT, Int.reduceLE, Int.reduceGT, Int.reduceGE]
  refine callI_of ((lfind_spec b h (by omega) hbi hsm hoo _).mono ?_)
  rintro _ M ⟨rfl, l, ok, e, hF, rfl⟩
  have hsame : e = f ∧ ok = want := by
    cases hF with
    | bad hn =>
      rcases hw with ⟨_, h1, h2⟩ | ⟨h1, _⟩
      · exact ⟨h2.symm, h1.symm⟩
      · exact absurd h1 hn
    | none ha hd =>
      rcases hw with ⟨h1, _⟩ | ⟨_, h1, h2⟩
      · exact absurd ha h1
      · refine ⟨h1.symm, ?_⟩
        cases want with
        | false => rfl
        | true => exact absurd (h2.1 rfl) hd
    | some ha hc =>
      rcases hw with ⟨h1, _⟩ | ⟨_, h1, h2⟩
      · exact absurd ha h1
      · exact ⟨h1.symm, (h2.2 ⟨_, hc⟩).symm⟩
  obtain ⟨rfl, rfl⟩ := hsame
  cases ok with
  | true =>
    obtain ⟨hr, rfl, ha⟩ := found_right hF
    have hlen := found_len hF
    simp -implicitDefEqProofs (maxSteps := 1000000) (disch := omega) only [↓xsP, ↓vc_seq, xsQ, xsT, xsR, xsD, ↓reduceIte, reduceCtorEq, eq_self, ne_eq, imp_self, forall_const, Nat.reduceEqDiff, Nat.reduceAdd, Nat.reduceSub, Nat.reduceMul, Nat.reduceLT, Nat.reduceLeDiff, Nat.reduceBEq, Nat.reduceDiv, Nat.reduceMod, Int.reduceToNat, Int.reduceNeg, Int.reduceAdd, Int.reduceSub, Int.reduceMul, Int.reduceEq, Int.reduceNe, Int.reduceLT, Int.reduceLE, Int.reduceGT, Int.reduceGE, beq_self_eq_true]
    refine callI_of ((lany_spec b h (by omega) hbi hsm hoo _).mono ?_)
    rintro _ M ⟨rfl, l2, ok2, e2, hF2, rfl⟩
    have h2 := found_of hF2 (by omega) hr
    subst h2
    simp -implicitDefEqProofs (maxSteps := 1000000) (disch := omega) only [↓xsP, ↓vc_seq, xsQ, xsT, xsR, xsD, ↓reduceIte, reduceCtorEq, eq_self, ne_eq, imp_self, forall_const, Nat.reduceEqDiff, Nat.reduceAdd, Nat.reduceSub, Nat.reduceMul, Nat.reduceLT, Nat.reduceLeDiff, Nat.reduceBEq, Nat.reduceDiv, Nat.reduceMod, Int.reduceToNat, Int.reduceNeg, Int.reduceAdd, Int.reduceSub, Int.reduceMul, Int.reduceEq, Int.reduceNe, Int.reduceLT, Int.reduceLE, Int.reduceGT, Int.reduceGE, beq_self_eq_true]
    refine call_of (oright_spec b h l (by omega) hsm (by have := hL.1; omega) (by omega) _) ?_
    rw [hr]
    simp -implicitDefEqProofs (maxSteps := 1000000) (disch := omega) only [↓xsP, ↓vc_seq, xsQ, xsT, xsR, xsD, ↓reduceIte, reduceCtorEq, eq_self, ne_eq, imp_self, forall_const, Nat.reduceEqDiff, Nat.reduceAdd, Nat.reduceSub, Nat.reduceMul, Nat.reduceLT, Nat.reduceLeDiff, Nat.reduceBEq, Nat.reduceDiv, Nat.reduceMod, Int.reduceToNat, Int.reduceNeg, Int.reduceAdd, Int.reduceSub, Int.reduceMul, Int.reduceEq, Int.reduceNe, Int.reduceLT, Int.reduceLE, Int.reduceGT, Int.reduceGE]
    refine call_of (awake20_spec _) ?_
    simp -implicitDefEqProofs (maxSteps := 1000000) (disch := omega) only [↓xsP, ↓vc_seq, xsQ, xsT, xsR, xsD, ↓reduceIte, reduceCtorEq, eq_self, ne_eq, imp_self, forall_const, Nat.reduceEqDiff, Nat.reduceAdd, Nat.reduceSub, Nat.reduceMul, Nat.reduceLT, Nat.reduceLeDiff, Nat.reduceBEq, Nat.reduceDiv, Nat.reduceMod, Int.reduceToNat, Int.reduceNeg, Int.reduceAdd, Int.reduceSub, Int.reduceMul, Int.reduceEq, Int.reduceNe, Int.reduceLT, Int.reduceLE, Int.reduceGT, Int.reduceGE]
    exact fin_ok (Mem.le_refl _) ⟨rfl, rfl⟩
  | false =>
    have hnil := found_nil hF
    subst hnil
    simp -implicitDefEqProofs (maxSteps := 1000000) (disch := omega) only [↓xsP, ↓vc_seq, xsQ, xsT, xsR, xsD, ↓reduceIte, reduceCtorEq, eq_self, ne_eq, imp_self, forall_const, Nat.reduceEqDiff, Nat.reduceAdd, Nat.reduceSub, Nat.reduceMul, Nat.reduceLT, Nat.reduceLeDiff, Nat.reduceBEq, Nat.reduceDiv, Nat.reduceMod, Int.reduceToNat, Int.reduceNeg, Int.reduceAdd, Int.reduceSub, Int.reduceMul, Int.reduceEq, Int.reduceNe, Int.reduceLT, Int.reduceLE, Int.reduceGT, Int.reduceGE, beq_self_eq_true]
    refine callI_of ((lany_spec b h (by omega) hbi hsm hoo _).mono ?_)
    rintro _ M ⟨rfl, l2, ok2, e2, hF2, rfl⟩
    have h2 : ok2 = false := by
      cases ok2 with
      | false => rfl
      | true => 
        obtain ⟨hr, _, ha⟩ := found_right hF2
        rw [found_not hF ha] at hr
        cases hr
    subst h2
    simp -implicitDefEqProofs (maxSteps := 1000000) (disch := omega) only [↓xsP, ↓vc_seq, xsQ, xsT, xsR, xsD, ↓reduceIte, reduceCtorEq, eq_self, ne_eq, imp_self, forall_const, Nat.reduceEqDiff, Nat.reduceAdd, Nat.reduceSub, Nat.reduceMul, Nat.reduceLT, Nat.reduceLeDiff, Nat.reduceBEq, Nat.reduceDiv, Nat.reduceMod, Int.reduceToNat, Int.reduceNeg, Int.reduceAdd, Int.reduceSub, Int.reduceMul, Int.reduceEq, Int.reduceNe, Int.reduceLT, Int.reduceLE, Int.reduceGT, Int.reduceGE, beq_self_eq_true, Int.cast_ofNat_Int]
    refine call_of (awake20_spec _) ?_
    simp -implicitDefEqProofs (maxSteps := 1000000) (disch := omega) only [↓xsP, ↓vc_seq, xsQ, xsT, xsR, xsD, ↓reduceIte, reduceCtorEq, eq_self, ne_eq, imp_self, forall_const, Nat.reduceEqDiff, Nat.reduceAdd, Nat.reduceSub, Nat.reduceMul, Nat.reduceLT, Nat.reduceLeDiff, Nat.reduceBEq, Nat.reduceDiv, Nat.reduceMod, Int.reduceToNat, Int.reduceNeg, Int.reduceAdd, Int.reduceSub, Int.reduceMul, Int.reduceEq, Int.reduceNe, Int.reduceLT, Int.reduceLE, Int.reduceGT, Int.reduceGE]
    exact fin_ok (Mem.le_refl _) ⟨rfl, rfl⟩
end Go.X
