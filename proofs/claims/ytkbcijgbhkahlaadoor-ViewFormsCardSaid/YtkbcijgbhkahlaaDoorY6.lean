/- Texts joined: Fd Fe. -/
import Derived.Test.YtkbcijgbhkahlaaDoorY5
set_option linter.unusedVariables false
set_option linter.unusedSimpArgs false
set_option maxHeartbeats 20000000
set_option maxRecDepth 100000
namespace Go.X
open Go.Proofs.Tryd (prog)

/-- What is ahead of a pair has been read, and w is left. -/
def Gd (s0 : List UInt8) (ps : List Pr) (w : List UInt8) : Prop := ∃ u, LInv s0 ps u ∧ u.head? ≠ some 124 ∧ (if ps = [] then w = u else u = 44 :: w)
def Lost (s0 : List UInt8) : Prop := ∀ ps st t, ¬ LeafAt s0 ps st t
theorem Gd.lost {s0 : List UInt8} {ps : List Pr} {w : List UInt8} (h : Gd s0 ps w) (hn : ∀ p t, ¬ PairAt w p t) : Lost s0 := by
  obtain ⟨u, h1, h2, h3⟩ := h
  refine h1.none h2 fun w' p t hw => ?_
  by_cases e : ps = []
  · rw [if_pos e] at h3 hw
    rw [hw, ← h3]
    exact hn p t
  · rw [if_neg e] at h3 hw
    rw [h3] at hw
    injection hw with _ hw
    rw [← hw]
    exact hn p t
theorem Gd.step {s0 : List UInt8} {ps : List Pr} {w t : List UInt8} {p : Pr} (h : Gd s0 ps w) (hp : PairAt w p t) : LInv s0 (ps ++ [p]) t := by
  obtain ⟨u, h1, h2, h3⟩ := h
  exact h1.step h2 h3 hp
theorem drop_head {s : List UInt8} {a : Nat} {c : UInt8} (h : (s.drop a).head? = some c) : s.drop a = c :: s.drop (a + 1) ∧ a < s.length := by
  rw [List.head?_drop] at h
  obtain ⟨h1, h2⟩ := List.getElem?_eq_some_iff.1 h
  exact ⟨by rw [← h2, ← List.drop_eq_getElem_cons], h1⟩
theorem tree_bad (s : List UInt8) (a : Nat) (rows : List (List Lf)) (xn : Lf) (B : Mem) (id : Nat) (N : Mem) (h : SSt B N id s a rows xn true) (hr : rows.length ≤ 100000) :
    XCalls Go.Proofs.Tryd.prog 26 [.l (.ptr id 0 0)] N fun r N' => r = .l (.int .i64 0) ∧ N' = N := by
  refine xcalls_intro (rs := [.tmp 2]) Go.Proofs.Tryd.func26 rfl (by kernel_rfl) rfl rfl (by kernel_rfl) (by simp) ?_
  have hown := h.own
  rw [scB] at hown
  have hln : ∀ X : Mem, lenA Go.Proofs.Tryd.prog X 22 (.l xn) = some (.l (.int .i64 rows.length)) := fun X => by
    rcases h.nds with ⟨rfl, rfl⟩ | ⟨idn, rfl, _, _⟩ <;> simp only [lenA, ti_22] <;> rfl
  simp only [lenA, ti_22] at hln
  simp -implicitDefEqProofs (maxSteps := 1000000) (disch := omega) only [↓xsP, ↓vc_seq, xsQ, xsT, xsR, xsD, ↓reduceIte, reduceCtorEq, eq_self, ne_eq, imp_self, forall_const, Nat.reduceEqDiff, Nat.reduceAdd, Nat.reduceSub, Nat.reduceMul, Nat.reduceLT, Nat.reduceLeDiff, Nat.reduceBEq, Nat.reduceDiv, Nat.reduceMod, Int.reduceToNat, Int.reduceNeg, Int.reduceAdd, Int.reduceSub, Int.reduceMul, Int.reduceEq, Int.reduceNe, Int.reduceLT, Int.reduceLE, Int.reduceGT, Int.reduceGE, hown, hln]
  refine fin_ok (fun k bk hk => ?_) ⟨rfl, rfl⟩
  rw [Mem.set_app]
  split
  · rename_i e
    rw [← e, hown] at hk
    exact hk
  · exact hk
theorem must_st {B N : Mem} {id : Nat} {s : List UInt8} {a : Nat} {rows : List (List Lf)} {xn : Lf} {bad : Bool} (h : SSt B N id s a rows xn bad) (hs : s.length ≤ 1000000) (ha : a ≤ s.length) (c : UInt8) :
    XCalls Go.Proofs.Tryd.prog 44 [.l (.ptr id 0 0), .l (.int .u8 c.toNat)] N fun r N' => ∃ b bad', SSt B N' id s b rows xn bad' ∧ b ≤ s.length ∧ ((bad' = bad ∧ s.drop a = c :: s.drop b) ∨ (bad' = true ∧ (s.drop a).head? ≠ some c)) := by
  refine (must_spec s hs a ha xn bad c id N h.own).mono ?_
  rintro _ _ (⟨h1, rfl⟩ | ⟨h1, rfl⟩)
  · obtain ⟨h2, h3⟩ := drop_head h1
    exact ⟨a + 1, bad, h.set _ _, h3, .inl ⟨rfl, h2⟩⟩
  · exact ⟨a, true, h.set _ _, ha, .inr ⟨rfl, h1⟩⟩
theorem number_st {B N : Mem} {id : Nat} {s : List UInt8} {a : Nat} {rows : List (List Lf)} {xn : Lf} {bad : Bool} (h : SSt B N id s a rows xn bad) (hs : s.length ≤ 1000000) (ha : a ≤ s.length) :
    XCalls Go.Proofs.Tryd.prog 45 [.l (.ptr id 0 0)] N fun r N' => ∃ v b bad', r = .l (.int .i64 v) ∧ SSt B N' id s b rows xn bad' ∧ b ≤ s.length ∧
      ((bad' = bad ∧ NumAt (s.drop a) v (s.drop b)) ∨ (bad' = bad ∧ (∀ v t, ¬ NumAt (s.drop a) v t) ∧ ¬ nd (s.drop b)) ∨ (bad' = true ∧ ∀ v t, ¬ NumAt (s.drop a) v t)) := by
  obtain ⟨v, b, ok, h1, h2, h3, h4, h5⟩ := number18_spec s hs a ha
  refine (h5 xn bad id N h.own).mono ?_
  rintro _ _ ⟨rfl, rfl⟩
  refine ⟨v, b, bad || !ok, rfl, h.set _ _, h2, ?_⟩
  rcases h4 with ⟨rfl, h4⟩ | ⟨rfl, h4⟩ | ⟨rfl, h4⟩
  · exact .inl ⟨by simp, h4⟩
  · exact .inr (.inl ⟨by simp, h4⟩)
  · exact .inr (.inr ⟨by simp, h4⟩)
theorem nd_cons {c : UInt8} {l : List UInt8} (h : dg c = false) : nd (c :: l) := fun d hd => by
  simp only [List.head?_cons, Option.some.injEq] at hd
  rw [← hd]
  exact h
theorem must_sc {B N : Mem} {id id2 : Nat} {Y : List Lf} {s : List UInt8} {a : Nat} {rows : List (List Lf)} {xn xp : Lf} {ps : List Pr} {bad : Bool} (h : Sc B N id id2 Y s a rows xn bad) (hp : Pq B N xp ps) (hs : s.length ≤ 1000000) (ha : a ≤ s.length) (c : UInt8) :
    XCalls Go.Proofs.Tryd.prog 44 [.l (.ptr id 0 0), .l (.int .u8 c.toNat)] N fun r N' => ∃ b bad', Sc B N' id id2 Y s b rows xn bad' ∧ Pq B N' xp ps ∧ b ≤ s.length ∧ ((bad' = bad ∧ s.drop a = c :: s.drop b) ∨ (bad' = true ∧ (s.drop a).head? ≠ some c)) := by
  refine (must_spec s hs a ha xn bad c id N h.own).mono ?_
  rintro _ _ (⟨h1, rfl⟩ | ⟨h1, rfl⟩)
  · obtain ⟨h2, h3⟩ := drop_head h1
    exact ⟨a + 1, bad, h.set _ _, hp.set h.own (by decide) _, h3, .inl ⟨rfl, h2⟩⟩
  · exact ⟨a, true, h.set _ _, hp.set h.own (by decide) _, ha, .inr ⟨rfl, h1⟩⟩
theorem number_sc {B N : Mem} {id id2 : Nat} {Y : List Lf} {s : List UInt8} {a : Nat} {rows : List (List Lf)} {xn xp : Lf} {ps : List Pr} {bad : Bool} (h : Sc B N id id2 Y s a rows xn bad) (hp : Pq B N xp ps) (hs : s.length ≤ 1000000) (ha : a ≤ s.length) :
    XCalls Go.Proofs.Tryd.prog 45 [.l (.ptr id 0 0)] N fun r N' => ∃ v b bad', r = .l (.int .i64 v) ∧ Sc B N' id id2 Y s b rows xn bad' ∧ Pq B N' xp ps ∧ b ≤ s.length ∧
      ((bad' = bad ∧ NumAt (s.drop a) v (s.drop b)) ∨ (bad' = bad ∧ (∀ v t, ¬ NumAt (s.drop a) v t) ∧ ¬ nd (s.drop b)) ∨ (bad' = true ∧ ∀ v t, ¬ NumAt (s.drop a) v t)) := by
  obtain ⟨v, b, ok, h1, h2, h3, h4, h5⟩ := number18_spec s hs a ha
  refine (h5 xn bad id N h.own).mono ?_
  rintro _ _ ⟨rfl, rfl⟩
  refine ⟨v, b, bad || !ok, rfl, h.set _ _, hp.set h.own (by decide) _, h2, ?_⟩
  rcases h4 with ⟨rfl, h4⟩ | ⟨rfl, h4⟩ | ⟨rfl, h4⟩
  · exact .inl ⟨by simp, h4⟩
  · exact .inr (.inl ⟨by simp, h4⟩)
  · exact .inr (.inr ⟨by simp, h4⟩)
/-- What tree tells. -/
def ScanK (B : Mem) (id : Nat) (s : List UInt8) (a : Nat) (rows : List (List Lf)) (r : AV) (N' : Mem) : Prop :=
  ∃ (v : Int) (b : Nat) (bad : Bool) (rows' : List (List Lf)) (xn' : Lf), r = .l (.int .i64 v) ∧ SSt B N' id s b rows' xn' bad ∧ b ≤ s.length ∧ R6 rows' ∧ rows.length ≤ rows'.length ∧ rows'.length ≤ 2001 ∧
    ((bad = false ∧ v = rows.length ∧ ∃ T, TreeAt (s.drop a) T (s.drop b) ∧ rows' = rows ++ preR rows.length T) ∨ (bad = true ∧ ∀ T t, TreeAt (s.drop a) T t → 2001 < rows.length + T.size))
def ScanP (B : Mem) (id f : Nat) : Prop := ∀ (s : List UInt8) (a : Nat) (rows : List (List Lf)) (xn : Lf) (N : Mem), s.length ≤ 1000000 → a ≤ s.length → 2001 ≤ rows.length + f → rows.length ≤ 2001 → R6 rows → SSt B N id s a rows xn false →
  XCalls Go.Proofs.Tryd.prog 26 [.l (.ptr id 0 0)] N (ScanK B id s a rows)
theorem scan_spec (B : Mem) (id : Nat) : ∀ f : Nat, ScanP B id f := by
  intro f
  induction f using Nat.strongRecOn with
  | ind f ihf =>
  intro s a rows xn N hs ha hf hr2 h6 hR
  refine xcalls_intro (rs := [.tmp 2]) Go.Proofs.Tryd.func26 rfl (by kernel_rfl) rfl rfl (by kernel_rfl) (by simp) ?_
  have hown := hR.own
  rw [scB] at hown
  have hln : ∀ X : Mem, lenA Go.Proofs.Tryd.prog X 22 (.l xn) = some (.l (.int .i64 rows.length)) := fun X => by
    rcases hR.nds with ⟨rfl, rfl⟩ | ⟨idn, rfl, _, _⟩ <;> simp only [lenA, ti_22] <;> rfl
  simp only [lenA, ti_22] at hln
  simp -implicitDefEqProofs (maxSteps := 1000000) (disch := omega) only [↓xsP, ↓vc_seq, xsQ, xsT, xsR, xsD, ↓reduceIte, reduceCtorEq, eq_self, ne_eq, imp_self, forall_const, Nat.reduceEqDiff, Nat.reduceAdd, Nat.reduceSub, Nat.reduceMul, Nat.reduceLT, Nat.reduceLeDiff, Nat.reduceBEq, Nat.reduceDiv, Nat.reduceMod, Int.reduceToNat, Int.reduceNeg, Int.reduceAdd, Int.reduceSub, Int.reduceMul, Int.reduceEq, Int.reduceNe, Int.reduceLT, Int.reduceLE, Int.reduceGT, Int.reduceGE, hown, hln]
  by_cases h2000 : rows.length ≤ 2000
  rotate_left
  · have w0 : decide ((rows.length : Int) > 2000) = true := decide_eq_true (by omega)
    simp -implicitDefEqProofs (maxSteps := 1000000) (disch := omega) only [↓xsP, ↓vc_seq, xsQ, xsT, xsR, xsD, ↓reduceIte, reduceCtorEq, eq_self, ne_eq, imp_self, forall_const, Nat.reduceEqDiff, Nat.reduceAdd, Nat.reduceSub, Nat.reduceMul, Nat.reduceLT, Nat.reduceLeDiff, Nat.reduceBEq, Nat.reduceDiv, Nat.reduceMod, Int.reduceToNat, Int.reduceNeg, Int.reduceAdd, Int.reduceSub, Int.reduceMul, Int.reduceEq, Int.reduceNe, Int.reduceLT, Int.reduceLE, Int.reduceGT, Int.reduceGE, hown, hln, w0]
    refine fin_ok (Mem.le_refl _) ⟨0, a, true, rows, xn, rfl, hR.set a true, ha, h6, Nat.le_refl _, hr2, .inr ⟨rfl, fun T t hT => ?_⟩⟩
    have := T.size_pos
    omega
  have w0 : decide ((rows.length : Int) > 2000) = false := decide_eq_false (by omega)
  simp -implicitDefEqProofs (maxSteps := 1000000) (disch := omega) only [↓xsP, ↓vc_seq, xsQ, xsT, xsR, xsD, ↓reduceIte, reduceCtorEq, eq_self, ne_eq, imp_self, forall_const, Nat.reduceEqDiff, Nat.reduceAdd, Nat.reduceSub, Nat.reduceMul, Nat.reduceLT, Nat.reduceLeDiff, Nat.reduceBEq, Nat.reduceDiv, Nat.reduceMod, Int.reduceToNat, Int.reduceNeg, Int.reduceAdd, Int.reduceSub, Int.reduceMul, Int.reduceEq, Int.reduceNe, Int.reduceLT, Int.reduceLE, Int.reduceGT, Int.reduceGE, hown, hln, w0]
  refine newI_intro fun idp hidp => ?_
  have kip := lt_of_bnd hidp hown
  have hRp := hR.new hidp (.cells 46 [[.bool false, .int .i64 0, .int .i64 0, .int .i64 0, .nils, .int .i64 0]] 0)
  simp -implicitDefEqProofs (maxSteps := 1000000) (disch := omega) only [↓xsP, ↓vc_seq, xsQ, xsT, xsR, xsD, ↓reduceIte, reduceCtorEq, eq_self, ne_eq, imp_self, forall_const, Nat.reduceEqDiff, Nat.reduceAdd, Nat.reduceSub, Nat.reduceMul, Nat.reduceLT, Nat.reduceLeDiff, Nat.reduceBEq, Nat.reduceDiv, Nat.reduceMod, Int.reduceToNat, Int.reduceNeg, Int.reduceAdd, Int.reduceSub, Int.reduceMul, Int.reduceEq, Int.reduceNe, Int.reduceLT, Int.reduceLE, Int.reduceGT, Int.reduceGE, hown, hln, w0]
  obtain ⟨N0, hsb, hle0, hown0⟩ := hRp.sb
  refine app_sb ti_22 rfl ti_46 (by kernel_rfl) (by decide) (by decide) hsb (bs := [[.bool false, .int .i64 0, .int .i64 0, .int .i64 0, .nils, .int .i64 0]]) (by unfold srcRows; rw [if_pos rfl]; simp only [Mem.set_eq]; rfl) (by simp) (by simp only [List.length_cons, List.length_nil]; omega) (fun id1 hid1 => ?_)
  have ki1 := lt_of_bnd hid1 hRp.own
  rw [scB] at hown0
  simp -implicitDefEqProofs (maxSteps := 1000000) (disch := omega) only [↓xsP, ↓vc_seq, xsQ, xsT, xsR, xsD, ↓reduceIte, reduceCtorEq, eq_self, ne_eq, imp_self, forall_const, Nat.reduceEqDiff, Nat.reduceAdd, Nat.reduceSub, Nat.reduceMul, Nat.reduceLT, Nat.reduceLeDiff, Nat.reduceBEq, Nat.reduceDiv, Nat.reduceMod, Int.reduceToNat, Int.reduceNeg, Int.reduceAdd, Int.reduceSub, Int.reduceMul, Int.reduceEq, Int.reduceNe, Int.reduceLT, Int.reduceLE, Int.reduceGT, Int.reduceGE, hown, hown0, hln, w0]
  obtain ⟨ph, hph⟩ : ∃ ph : List Lf, [.bool false, .int .i64 0, .int .i64 0, .int .i64 0, .nils, .int .i64 0] = ph := ⟨_, rfl⟩
  have hph6 : ph.length = 6 := by rw [← hph]; rfl
  rw [hph]
  have hB1 : B id1 = none := by
    cases hb : B id1 with
    | none => rfl
    | some bk =>
      have := hsb.le _ _ (hle0 _ _ hb)
      rw [hid1 id1 (Nat.le_refl _)] at this
      cases this
  have hR2 : SSt B ((N0.set id1 (.cells 46 (rows ++ [ph]) 0)).set id (scB s a (.ms id1 0 (rows.length + 1)) false)) id s a (rows ++ [ph]) (.ms id1 0 (rows.length + 1)) false := by
    refine ⟨Mem.set_eq _ _ _, hR.bid, fun k bk hk => ?_, .inr ⟨id1, by simp, ?_, hB1⟩⟩
    · rw [Mem.set_ne _ _ _ _ (fun e => by rw [← e, hR.bid] at hk; cases hk), Mem.set_ne _ _ _ _ (fun e => by rw [← e, hB1] at hk; cases hk)]
      exact hle0 _ _ hk
    · rw [Mem.set_ne _ _ _ _ (by omega), Mem.set_eq]
  rw [scB] at hR2
  generalize (N0.set id1 (.cells 46 (rows ++ [ph]) 0)).set id (.cells 56 [[txt s, .int .i64 a, .ms id1 0 (rows.length + 1), .bool false]] 0) = N2 at hR2 ⊢
  have h6a : R6 (rows ++ [ph]) := fun r hr => by
    rcases List.mem_append.1 hr with hr | hr
    · exact h6 r hr
    · rw [List.mem_singleton.1 hr]; exact hph6
  clear hln hown hown0 hsb hle0 hRp hR hid1 hidp
  refine call_of (sees_spec s hs a ha _ false 40 id N2 hR2.own) ?_
  by_cases h40 : (s.drop a).head? = some 40
  · rw [decide_eq_true h40]
    obtain ⟨hd40, hal⟩ := drop_head h40
    have hown2 := hR2.own
    rw [scB] at hown2
    simp -implicitDefEqProofs (maxSteps := 1000000) (disch := omega) only [↓xsP, ↓vc_seq, xsQ, xsT, xsR, xsD, ↓reduceIte, reduceCtorEq, eq_self, ne_eq, imp_self, forall_const, Nat.reduceEqDiff, Nat.reduceAdd, Nat.reduceSub, Nat.reduceMul, Nat.reduceLT, Nat.reduceLeDiff, Nat.reduceBEq, Nat.reduceDiv, Nat.reduceMod, Int.reduceToNat, Int.reduceNeg, Int.reduceAdd, Int.reduceSub, Int.reduceMul, Int.reduceEq, Int.reduceNe, Int.reduceLT, Int.reduceLE, Int.reduceGT, Int.reduceGE, hown2]
    have hR3 := hR2.set (a + 1) false
    rw [scB, Int.natCast_add, Int.cast_ofNat_Int] at hR3
    generalize N2.set id _ = N3 at hR3 ⊢
    have hfork : ∀ T t, TreeAt (s.drop a) T t → ∃ k l r b c, T = .fork k l r ∧ TreeAt (s.drop (a + 1)) l (32 :: b) ∧ NumAt b k (32 :: c) ∧ TreeAt c r (41 :: t) := fun T t hT => by
      cases T with
      | leaf ps st =>
        obtain ⟨x, u, e, _⟩ := hT
        rw [hd40] at e
        injection e with e _
        exact absurd e (by decide)
      | fork k l r =>
        obtain ⟨x, b, c, e, q1, q2, q3⟩ := hT
        rw [hd40] at e
        injection e with _ e
        rw [← e] at q1
        exact ⟨k, l, r, b, c, rfl, q1, q2, q3⟩
    have hrl : (rows ++ [ph]).length = rows.length + 1 := by simp
    refine callI_of ((ihf (2001 - (rows.length + 1)) (by omega) s (a + 1) (rows ++ [ph]) _ N3 hs (by omega) (by rw [hrl]; omega) (by rw [hrl]; omega) h6a hR3).mono ?_)
    rintro _ N4 ⟨v1, b1, bad1, rows1, xn1, rfl, hR4, hb1, h61, hl1, hl1', hst1⟩
    rw [hrl] at hl1 hst1
    clear hR3 hR2 hown2
    obtain ⟨LF, hLF⟩ : ∃ LF : Prop, LF = ∀ T t, TreeAt (s.drop a) T t → 2001 < rows.length + T.size := ⟨_, rfl⟩
    replace hst1 : (bad1 = false ∧ v1 = ((rows.length + 1 : Nat) : Int) ∧ ∃ T, TreeAt (s.drop (a + 1)) T (s.drop b1) ∧ rows1 = rows ++ [ph] ++ preR (rows.length + 1) T) ∨ (bad1 = true ∧ LF) := by
      rcases hst1 with h | ⟨h, h'⟩
      · exact .inl h
      · refine .inr ⟨h, ?_⟩
        rw [hLF]
        intro T t hT
        obtain ⟨k, l, r, b, c, rfl, q1, q2, q3⟩ := hfork T t hT
        have := h' _ _ q1
        simp only [Tr.size]
        omega
    simp -implicitDefEqProofs (maxSteps := 1000000) (disch := omega) only [↓xsP, ↓vc_seq, xsQ, xsT, xsR, xsD, ↓reduceIte, reduceCtorEq, eq_self, ne_eq, imp_self, forall_const, Nat.reduceEqDiff, Nat.reduceAdd, Nat.reduceSub, Nat.reduceMul, Nat.reduceLT, Nat.reduceLeDiff, Nat.reduceBEq, Nat.reduceDiv, Nat.reduceMod, Int.reduceToNat, Int.reduceNeg, Int.reduceAdd, Int.reduceSub, Int.reduceMul, Int.reduceEq, Int.reduceNe, Int.reduceLT, Int.reduceLE, Int.reduceGT, Int.reduceGE]
    refine callI_of ((must_st hR4 hs hb1 32).mono ?_)
    rintro _ N5 ⟨b2, bad2, hR5, hb2, hst2⟩
    replace hst2 : (bad2 = false ∧ v1 = ((rows.length + 1 : Nat) : Int) ∧ ∃ T, TreeAt (s.drop (a + 1)) T (32 :: s.drop b2) ∧ rows1 = rows ++ [ph] ++ preR (rows.length + 1) T) ∨ (bad2 = true ∧ LF) := by
      rcases hst1 with ⟨rfl, hv1, T, hT, hr⟩ | ⟨rfl, h⟩
      · rcases hst2 with ⟨rfl, h⟩ | ⟨rfl, h⟩
        · exact .inl ⟨rfl, hv1, T, by rw [← h]; exact hT, hr⟩
        · refine .inr ⟨rfl, ?_⟩
          rw [hLF]
          intro T' t hT'
          obtain ⟨k, l, r, b, c, rfl, q1, q2, q3⟩ := hfork T' t hT'
          rw [← (treeAt_uniq q1 hT).2] at h
          exact absurd rfl h
      · rcases hst2 with ⟨rfl, -⟩ | ⟨rfl, -⟩
        · exact .inr ⟨rfl, h⟩
        · exact .inr ⟨rfl, h⟩
    clear hst1 hR4
    simp -implicitDefEqProofs (maxSteps := 1000000) (disch := omega) only [↓xsP, ↓vc_seq, xsQ, xsT, xsR, xsD, ↓reduceIte, reduceCtorEq, eq_self, ne_eq, imp_self, forall_const, Nat.reduceEqDiff, Nat.reduceAdd, Nat.reduceSub, Nat.reduceMul, Nat.reduceLT, Nat.reduceLeDiff, Nat.reduceBEq, Nat.reduceDiv, Nat.reduceMod, Int.reduceToNat, Int.reduceNeg, Int.reduceAdd, Int.reduceSub, Int.reduceMul, Int.reduceEq, Int.reduceNe, Int.reduceLT, Int.reduceLE, Int.reduceGT, Int.reduceGE]
    refine callI_of ((number_st hR5 hs hb2).mono ?_)
    rintro _ N6 ⟨kv, b3, bad3, rfl, hR6, hb3, hst3⟩
    clear hR5
    simp -implicitDefEqProofs (maxSteps := 1000000) (disch := omega) only [↓xsP, ↓vc_seq, xsQ, xsT, xsR, xsD, ↓reduceIte, reduceCtorEq, eq_self, ne_eq, imp_self, forall_const, Nat.reduceEqDiff, Nat.reduceAdd, Nat.reduceSub, Nat.reduceMul, Nat.reduceLT, Nat.reduceLeDiff, Nat.reduceBEq, Nat.reduceDiv, Nat.reduceMod, Int.reduceToNat, Int.reduceNeg, Int.reduceAdd, Int.reduceSub, Int.reduceMul, Int.reduceEq, Int.reduceNe, Int.reduceLT, Int.reduceLE, Int.reduceGT, Int.reduceGE]
    refine callI_of ((must_st hR6 hs hb3 32).mono ?_)
    rintro _ N7 ⟨b4, bad4, hR7, hb4, hst4⟩
    replace hst4 : (bad4 = false ∧ v1 = ((rows.length + 1 : Nat) : Int) ∧ ∃ T u, TreeAt (s.drop (a + 1)) T (32 :: u) ∧ NumAt u kv (32 :: s.drop b4) ∧ rows1 = rows ++ [ph] ++ preR (rows.length + 1) T) ∨ (bad4 = true ∧ LF) := by
      have key : ∀ {T u}, TreeAt (s.drop (a + 1)) T (32 :: u) → (∀ v t, ¬ NumAt u v (32 :: t)) → LF := fun {T u} hT h => by
        rw [hLF]
        intro T' t hT'
        obtain ⟨k, l, r, b, c, rfl, q1, q2, q3⟩ := hfork T' t hT'
        have e := (treeAt_uniq q1 hT).2
        injection e with _ e
        rw [e] at q2
        exact absurd q2 (h _ _)
      rcases hst2 with ⟨rfl, hv1, T, hT, hr⟩ | ⟨rfl, h⟩
      · rcases hst3 with ⟨rfl, h3⟩ | ⟨rfl, h3, hnd⟩ | ⟨rfl, h3⟩
        · rcases hst4 with ⟨rfl, h⟩ | ⟨rfl, h⟩
          · exact .inl ⟨rfl, hv1, T, _, hT, by rw [← h]; exact h3, hr⟩
          · refine .inr ⟨rfl, key hT fun v t hn => ?_⟩
            rw [← (numAt_uniq hn h3).2] at h
            exact absurd rfl h
        · rcases hst4 with ⟨rfl, h⟩ | ⟨rfl, h⟩
          · rw [h] at hnd
            exact absurd (nd_cons (by decide)) hnd
          · exact .inr ⟨rfl, key hT fun v t => h3 _ _⟩
        · rcases hst4 with ⟨rfl, h⟩ | ⟨rfl, h⟩
          · exact .inr ⟨rfl, key hT fun v t => h3 _ _⟩
          · exact .inr ⟨rfl, key hT fun v t => h3 _ _⟩
      · have hb3t : bad3 = true := by rcases hst3 with ⟨h, -⟩ | ⟨h, -⟩ | ⟨h, -⟩ <;> exact h
        rcases hst4 with ⟨h4, -⟩ | ⟨h4, -⟩
        · exact .inr ⟨h4.trans hb3t, h⟩
        · exact .inr ⟨h4, h⟩
    clear hst3 hst2 hR6
    simp -implicitDefEqProofs (maxSteps := 1000000) (disch := omega) only [↓xsP, ↓vc_seq, xsQ, xsT, xsR, xsD, ↓reduceIte, reduceCtorEq, eq_self, ne_eq, imp_self, forall_const, Nat.reduceEqDiff, Nat.reduceAdd, Nat.reduceSub, Nat.reduceMul, Nat.reduceLT, Nat.reduceLeDiff, Nat.reduceBEq, Nat.reduceDiv, Nat.reduceMod, Int.reduceToNat, Int.reduceNeg, Int.reduceAdd, Int.reduceSub, Int.reduceMul, Int.reduceEq, Int.reduceNe, Int.reduceLT, Int.reduceLE, Int.reduceGT, Int.reduceGE]
    have hrow1 : ∀ T, rows1 = rows ++ [ph] ++ preR (rows.length + 1) T → rows1.length = rows.length + 1 + T.size := fun T h => by rw [h, List.length_append, hrl, preR_len]
    have h2nd : XCalls Go.Proofs.Tryd.prog 26 [.l (.ptr id 0 0)] N7 fun r N' => ∃ (v : Int) (b : Nat) (bad : Bool) (rows' : List (List Lf)) (xn' : Lf), r = .l (.int .i64 v) ∧ SSt B N' id s b rows' xn' bad ∧ b ≤ s.length ∧ R6 rows' ∧ rows.length + 1 ≤ rows'.length ∧ rows'.length ≤ 2001 ∧
        ((bad = false ∧ v1 = ((rows.length + 1 : Nat) : Int) ∧ ∃ T u U c, TreeAt (s.drop (a + 1)) T (32 :: u) ∧ NumAt u kv (32 :: c) ∧ TreeAt c U (s.drop b) ∧ v = ((rows.length + 1 + T.size : Nat) : Int) ∧ rows' = rows ++ [ph] ++ preR (rows.length + 1) T ++ preR (rows.length + 1 + T.size) U) ∨ (bad = true ∧ LF)) := by
      rcases hst4 with ⟨rfl, hv1, T, u, hT, hu, hr⟩ | ⟨rfl, h⟩
      · refine (ihf (2001 - rows1.length) (by omega) s b4 rows1 _ N7 hs hb4 (by omega) hl1' h61 hR7).mono ?_
        rintro _ N' ⟨v, b, bad, rows', xn', rfl, h1, h2, h3, h4, h5, h6⟩
        refine ⟨v, b, bad, rows', xn', rfl, h1, h2, h3, by omega, h5, ?_⟩
        rcases h6 with ⟨rfl, h6, U, hU, h7⟩ | ⟨rfl, h6⟩
        · refine .inl ⟨rfl, hv1, T, u, U, _, hT, hu, hU, ?_, ?_⟩
          · rw [h6, hrow1 T hr]
          · rw [h7, hrow1 T hr, hr]
        · refine .inr ⟨rfl, ?_⟩
          rw [hLF]
          intro T' t hT'
          obtain ⟨k, l, r, b', c, rfl, q1, q2, q3⟩ := hfork T' t hT'
          obtain ⟨rfl, e⟩ := treeAt_uniq q1 hT
          injection e with _ e
          rw [e] at q2
          obtain ⟨-, e⟩ := numAt_uniq q2 hu
          injection e with _ e
          rw [e] at q3
          have := h6 _ _ q3
          have := hrow1 l hr
          simp only [Tr.size]
          omega
      · refine (tree_bad s b4 rows1 xn1 B id N7 hR7 (by omega)).mono ?_
        rintro _ _ ⟨rfl, rfl⟩
        exact ⟨0, b4, true, rows1, xn1, rfl, hR7, hb4, h61, hl1, hl1', .inr ⟨rfl, h⟩⟩
    refine callI_of (h2nd.mono ?_)
    rintro _ N8 ⟨v5, b5, bad5, rows5, xn5, rfl, hR8, hb5, h65, hl5, hl5', hst5⟩
    clear h2nd hst4 hR7
    simp -implicitDefEqProofs (maxSteps := 1000000) (disch := omega) only [↓xsP, ↓vc_seq, xsQ, xsT, xsR, xsD, ↓reduceIte, reduceCtorEq, eq_self, ne_eq, imp_self, forall_const, Nat.reduceEqDiff, Nat.reduceAdd, Nat.reduceSub, Nat.reduceMul, Nat.reduceLT, Nat.reduceLeDiff, Nat.reduceBEq, Nat.reduceDiv, Nat.reduceMod, Int.reduceToNat, Int.reduceNeg, Int.reduceAdd, Int.reduceSub, Int.reduceMul, Int.reduceEq, Int.reduceNe, Int.reduceLT, Int.reduceLE, Int.reduceGT, Int.reduceGE]
    refine callI_of ((must_st hR8 hs hb5 41).mono ?_)
    rintro _ N9 ⟨b6, bad6, hR9, hb6, hst6⟩
    have hne5 : rows5 ≠ [] := fun e => by rw [e] at hl5; simp at hl5
    obtain ⟨idn, hxn, hn, hBn, hni⟩ := hR9.ms hne5
    have hown := hR9.own
    rw [hxn] at hown
    rw [scB] at hown
    obtain ⟨row, hrow⟩ : ∃ row, rows5[rows.length]? = some row := ⟨_, List.getElem?_eq_getElem (by omega)⟩
    have hr6 : row.length = 6 := h65 row (List.mem_of_getElem? hrow)
    have hdr : row.drop 6 = [] := List.drop_of_length_le (by omega)
    simp -implicitDefEqProofs (maxSteps := 1000000) (disch := omega) only [↓xsP, ↓vc_seq, xsQ, xsT, xsR, xsD, ↓reduceIte, reduceCtorEq, eq_self, ne_eq, imp_self, forall_const, Nat.reduceEqDiff, Nat.reduceAdd, Nat.reduceSub, Nat.reduceMul, Nat.reduceLT, Nat.reduceLeDiff, Nat.reduceBEq, Nat.reduceDiv, Nat.reduceMod, Int.reduceToNat, Int.reduceNeg, Int.reduceAdd, Int.reduceSub, Int.reduceMul, Int.reduceEq, Int.reduceNe, Int.reduceLT, Int.reduceLE, Int.reduceGT, Int.reduceGE, hown, hn, hrow, hr6, hdr]
    obtain ⟨nw, hnw⟩ : ∃ nw : List Lf, [.bool true, .int .i64 kv, .int .i64 v1, .int .i64 v5, .nils, .int .i64 0] = nw := ⟨_, rfl⟩
    rw [hnw]
    have hnw6 : nw.length = 6 := by rw [← hnw]; rfl
    have hR10 : SSt B (N9.set idn (.cells 46 (rows5.set rows.length nw) 0)) id s b6 (rows5.set rows.length nw) (.ms idn 0 rows5.length) bad6 := by
      refine ⟨?_, hR9.bid, Mem.le_set hR9.le hBn, .inr ⟨idn, by rw [List.length_set], Mem.set_eq _ _ _, hBn⟩⟩
      rw [Mem.set_ne _ _ _ _ (Ne.symm hni), ← hxn]
      exact hR9.own
    have h6s : R6 (rows5.set rows.length nw) := fun r hr => by
      rcases List.mem_or_eq_of_mem_set hr with hr | rfl
      · exact h65 r hr
      · exact hnw6
    refine fin_ok (Mem.le_refl _) ⟨_, b6, bad6, _, _, rfl, hR10, hb6, h6s, by rw [List.length_set]; omega, by rw [List.length_set]; omega, ?_⟩
    rcases hst5 with ⟨rfl, rfl, T, u, U, c, g1, g2, g3, rfl, hr5⟩ | ⟨rfl, h⟩
    · rcases hst6 with ⟨rfl, h⟩ | ⟨rfl, h⟩
      · refine .inl ⟨rfl, rfl, .fork kv T U, ⟨_, u, c, hd40, g1, g2, by rw [← h]; exact g3⟩, ?_⟩
        rw [hr5, ← hnw, List.append_assoc, List.append_assoc, List.singleton_append, set_mid]
        simp [preR]
      · refine .inr ⟨rfl, fun T' t hT' => ?_⟩
        obtain ⟨k, l, r, b', c', rfl, q1, q2, q3⟩ := hfork T' t hT'
        obtain ⟨rfl, e⟩ := treeAt_uniq q1 g1
        injection e with _ e
        rw [e] at q2
        obtain ⟨-, e⟩ := numAt_uniq q2 g2
        injection e with _ e
        rw [e] at q3
        rw [← (treeAt_uniq q3 g3).2] at h
        exact absurd rfl h
    · have hb6t : bad6 = true := by rcases hst6 with ⟨h, -⟩ | ⟨h, -⟩ <;> exact h
      rw [hLF] at h
      exact .inr ⟨hb6t, h⟩
  rw [decide_eq_false h40]
  have hleaf : ∀ T t, TreeAt (s.drop a) T t → ∃ ps st w, T = .leaf ps st ∧ s.drop a = 91 :: w ∧ LeafAt w ps st t := fun T t hT => by
    cases T with
    | leaf ps st =>
      obtain ⟨x, u, e, h1, h2⟩ := hT
      exact ⟨ps, st, x, rfl, e, u, h1, h2⟩
    | fork k l r =>
      obtain ⟨x, b, c, e, q1, q2, q3⟩ := hT
      rw [e] at h40
      exact absurd rfl h40
  obtain ⟨LF, hLF⟩ : ∃ LF : Prop, LF = ∀ T t, ¬ TreeAt (s.drop a) T t := ⟨_, rfl⟩
  have hlost : ∀ w, s.drop a = 91 :: w → Lost w → LF := fun w hw hl => by
    rw [hLF]
    intro T t hT
    obtain ⟨ps, st, w', rfl, e, h⟩ := hleaf T t hT
    rw [hw] at e
    injection e with _ e
    rw [← e] at h
    exact hl _ _ _ h
  simp -implicitDefEqProofs (maxSteps := 1000000) (disch := omega) only [↓xsP, ↓vc_seq, xsQ, xsT, xsR, xsD, ↓reduceIte, reduceCtorEq, eq_self, ne_eq, imp_self, forall_const, Nat.reduceEqDiff, Nat.reduceAdd, Nat.reduceSub, Nat.reduceMul, Nat.reduceLT, Nat.reduceLeDiff, Nat.reduceBEq, Nat.reduceDiv, Nat.reduceMod, Int.reduceToNat, Int.reduceNeg, Int.reduceAdd, Int.reduceSub, Int.reduceMul, Int.reduceEq, Int.reduceNe, Int.reduceLT, Int.reduceLE, Int.reduceGT, Int.reduceGE]
  refine callI_of ((must_st hR2 hs ha 91).mono ?_)
  rintro _ N3 ⟨a1, bad1, hR3, ha1, hst1⟩
  replace hst1 : (bad1 = false ∧ s.drop a = 91 :: s.drop a1) ∨ (bad1 = true ∧ LF) := by
    rcases hst1 with h | ⟨h, h'⟩
    · exact .inl h
    · refine .inr ⟨h, ?_⟩
      rw [hLF]
      intro T t hT
      obtain ⟨ps, st, w', rfl, e, -⟩ := hleaf T t hT
      rw [e] at h'
      exact absurd rfl h'
  clear hR2
  simp -implicitDefEqProofs (maxSteps := 1000000) (disch := omega) only [↓xsP, ↓vc_seq, xsQ, xsT, xsR, xsD, ↓reduceIte, reduceCtorEq, eq_self, ne_eq, imp_self, forall_const, Nat.reduceEqDiff, Nat.reduceAdd, Nat.reduceSub, Nat.reduceMul, Nat.reduceLT, Nat.reduceLeDiff, Nat.reduceBEq, Nat.reduceDiv, Nat.reduceMod, Int.reduceToNat, Int.reduceNeg, Int.reduceAdd, Int.reduceSub, Int.reduceMul, Int.reduceEq, Int.reduceNe, Int.reduceLT, Int.reduceLE, Int.reduceGT, Int.reduceGE]
  refine newI_intro fun id2 hid2 => ?_
  have k2 := lt_of_bnd hid2 hR3.own
  have hSc : Sc B (N3.set id2 (.cells 46 [[.bool false, .int .i64 0, .int .i64 0, .int .i64 0, .nils, .int .i64 0]] 0)) id id2 [.bool false, .int .i64 0, .int .i64 0, .int .i64 0, .nils, .int .i64 0] s a1 (rows ++ [ph]) (.ms id1 0 (rows.length + 1)) bad1 := by
    have h := hR3.new hid2 (.cells 46 [[.bool false, .int .i64 0, .int .i64 0, .int .i64 0, .nils, .int .i64 0]] 0)
    obtain ⟨idn, h1, h2, h3, h4⟩ := h.ms (by simp)
    obtain ⟨idn', h1', h2', -, -⟩ := hR3.ms (by simp)
    have he : idn = idn' := by rw [h1] at h1'; injection h1'
    have k3 := lt_of_bnd hid2 h2'
    refine ⟨h.own, Mem.set_eq _ _ _, ⟨idn, h1, h2, h3, by omega⟩, h.bid, ?_, h.le⟩
    cases hb : B id2 with
    | none => rfl
    | some bk => have := hid2 id2 (Nat.le_refl _); rw [hR3.le _ _ hb] at this; cases this
  generalize N3.set id2 _ = N4 at hSc ⊢
  simp -implicitDefEqProofs (maxSteps := 1000000) (disch := omega) only [↓xsP, xsQ, xsT, xsR, xsD, ↓reduceIte, reduceCtorEq, eq_self, ne_eq, imp_self, forall_const, Nat.reduceEqDiff, Nat.reduceAdd, Nat.reduceSub, Nat.reduceMul, Nat.reduceLT, Nat.reduceLeDiff, Nat.reduceBEq, Nat.reduceDiv, Nat.reduceMod, Int.reduceToNat, Int.reduceNeg, Int.reduceAdd, Int.reduceSub, Int.reduceMul, Int.reduceEq, Int.reduceNe, Int.reduceLT, Int.reduceLE, Int.reduceGT, Int.reduceGE]
  refine vc_cut (fun fr N => ∃ xp ps b bad, Sc B N id id2 [.bool false, .int .i64 0, .int .i64 0, .int .i64 0, xp, .int .i64 0] s b (rows ++ [ph]) (.ms id1 0 (rows.length + 1)) bad ∧ Pq B N xp ps ∧ b ≤ s.length ∧ ps.length ≤ s.length + 2 ∧ fr 0 = .l (.ptr id 0 0) ∧ fr 3 = .l (.int .i64 rows.length) ∧ fr 7 = .l (.ptr id2 0 0) ∧
    ((bad = false ∧ (s.drop b).head? = some 124 ∧ ∃ w, s.drop a = 91 :: w ∧ LInv w ps (s.drop b)) ∨ (bad = true ∧ LF))) ?_ ?_
  · simp -implicitDefEqProofs (maxSteps := 1000000) (disch := omega) only [↓xsP, ↓vc_seq, xsQ, xsT, xsR, xsD, ↓reduceIte, reduceCtorEq, eq_self, ne_eq, imp_self, forall_const, Nat.reduceEqDiff, Nat.reduceAdd, Nat.reduceSub, Nat.reduceMul, Nat.reduceLT, Nat.reduceLeDiff, Nat.reduceBEq, Nat.reduceDiv, Nat.reduceMod, Int.reduceToNat, Int.reduceNeg, Int.reduceAdd, Int.reduceSub, Int.reduceMul, Int.reduceEq, Int.reduceNe, Int.reduceLT, Int.reduceLE, Int.reduceGT, Int.reduceGE]
    refine loopI_of (xloop (by kernel_rfl) (fun k fr N => ∃ xp ps b bad, Sc B N id id2 [.bool false, .int .i64 0, .int .i64 0, .int .i64 0, xp, .int .i64 0] s b (rows ++ [ph]) (.ms id1 0 (rows.length + 1)) bad ∧ Pq B N xp ps ∧ b ≤ s.length ∧ ps.length + k ≤ s.length + 2 ∧ fr 0 = .l (.ptr id 0 0) ∧ fr 3 = .l (.int .i64 rows.length) ∧ fr 7 = .l (.ptr id2 0 0) ∧
      ((bad = false ∧ k = s.length - b + 2 ∧ ∃ w, s.drop a = 91 :: w ∧ LInv w ps (s.drop b)) ∨ (bad = false ∧ k = 1 ∧ ps ≠ [] ∧ LF ∧ ¬ nd (s.drop b)) ∨ (bad = true ∧ k = 0 ∧ LF))) (if bad1 = true then 0 else s.length - a1 + 2) ?_ ?_)
    · refine ⟨.nils, [], a1, bad1, hSc, .inl ⟨rfl, rfl⟩, ha1, by rw [List.length_nil]; split <;> omega, by simp -implicitDefEqProofs (maxSteps := 1000000) (disch := omega) only [↓xsP, ↓vc_seq, xsQ, xsT, xsR, xsD, ↓reduceIte, reduceCtorEq, eq_self, ne_eq, imp_self, forall_const, Nat.reduceEqDiff, Nat.reduceAdd, Nat.reduceSub, Nat.reduceMul, Nat.reduceLT, Nat.reduceLeDiff, Nat.reduceBEq, Nat.reduceDiv, Nat.reduceMod, Int.reduceToNat, Int.reduceNeg, Int.reduceAdd, Int.reduceSub, Int.reduceMul, Int.reduceEq, Int.reduceNe, Int.reduceLT, Int.reduceLE, Int.reduceGT, Int.reduceGE], by simp -implicitDefEqProofs (maxSteps := 1000000) (disch := omega) only [↓xsP, ↓vc_seq, xsQ, xsT, xsR, xsD, ↓reduceIte, reduceCtorEq, eq_self, ne_eq, imp_self, forall_const, Nat.reduceEqDiff, Nat.reduceAdd, Nat.reduceSub, Nat.reduceMul, Nat.reduceLT, Nat.reduceLeDiff, Nat.reduceBEq, Nat.reduceDiv, Nat.reduceMod, Int.reduceToNat, Int.reduceNeg, Int.reduceAdd, Int.reduceSub, Int.reduceMul, Int.reduceEq, Int.reduceNe, Int.reduceLT, Int.reduceLE, Int.reduceGT, Int.reduceGE], by simp -implicitDefEqProofs (maxSteps := 1000000) (disch := omega) only [↓xsP, ↓vc_seq, xsQ, xsT, xsR, xsD, ↓reduceIte, reduceCtorEq, eq_self, ne_eq, imp_self, forall_const, Nat.reduceEqDiff, Nat.reduceAdd, Nat.reduceSub, Nat.reduceMul, Nat.reduceLT, Nat.reduceLeDiff, Nat.reduceBEq, Nat.reduceDiv, Nat.reduceMod, Int.reduceToNat, Int.reduceNeg, Int.reduceAdd, Int.reduceSub, Int.reduceMul, Int.reduceEq, Int.reduceNe, Int.reduceLT, Int.reduceLE, Int.reduceGT, Int.reduceGE], ?_⟩
      rcases hst1 with ⟨rfl, h⟩ | ⟨rfl, h⟩
      · exact .inl ⟨rfl, rfl, _, h, LInv.start _⟩
      · exact .inr (.inr ⟨rfl, rfl, h⟩)
    clear hSc hst1
    rintro k fr N ⟨xp, ps, b, bad, hS, hP, hb, hpl, f0, f3, f7, hst⟩
    simp -implicitDefEqProofs (maxSteps := 1000000) (disch := omega) only [↓xsP, ↓vc_seq, xsQ, xsT, xsR, xsD, ↓reduceIte, reduceCtorEq, eq_self, ne_eq, imp_self, forall_const, Nat.reduceEqDiff, Nat.reduceAdd, Nat.reduceSub, Nat.reduceMul, Nat.reduceLT, Nat.reduceLeDiff, Nat.reduceBEq, Nat.reduceDiv, Nat.reduceMod, Int.reduceToNat, Int.reduceNeg, Int.reduceAdd, Int.reduceSub, Int.reduceMul, Int.reduceEq, Int.reduceNe, Int.reduceLT, Int.reduceLE, Int.reduceGT, Int.reduceGE, f0, f3, f7]
    refine call_of (sees_spec s hs b hb _ bad 124 id N hS.own) ?_
    by_cases h124 : (s.drop b).head? = some 124
    · rw [decide_eq_true h124]
      simp -implicitDefEqProofs (maxSteps := 1000000) (disch := omega) only [↓xsP, ↓vc_seq, xsQ, xsT, xsR, xsD, ↓reduceIte, reduceCtorEq, eq_self, ne_eq, imp_self, forall_const, Nat.reduceEqDiff, Nat.reduceAdd, Nat.reduceSub, Nat.reduceMul, Nat.reduceLT, Nat.reduceLeDiff, Nat.reduceBEq, Nat.reduceDiv, Nat.reduceMod, Int.reduceToNat, Int.reduceNeg, Int.reduceAdd, Int.reduceSub, Int.reduceMul, Int.reduceEq, Int.reduceNe, Int.reduceLT, Int.reduceLE, Int.reduceGT, Int.reduceGE, f0, f3, f7]
      refine ⟨xp, ps, b, bad, hS, hP, hb, by omega, ?_⟩
      rcases hst with ⟨rfl, -, w, h1, h2⟩ | ⟨rfl, -, -, -, h⟩ | ⟨rfl, -, h⟩
      · exact .inl ⟨rfl, h124, w, h1, h2⟩
      · exfalso
        refine h fun d hd => ?_
        rw [hd] at h124
        injection h124 with h124
        rw [h124]
        decide
      · exact .inr ⟨rfl, h⟩
    rw [decide_eq_false h124]
    have hown := hS.own
    rw [scB] at hown
    simp -implicitDefEqProofs (maxSteps := 1000000) (disch := omega) only [↓xsP, xsQ, xsT, xsR, xsD, ↓reduceIte, reduceCtorEq, eq_self, ne_eq, imp_self, forall_const, Nat.reduceEqDiff, Nat.reduceAdd, Nat.reduceSub, Nat.reduceMul, Nat.reduceLT, Nat.reduceLeDiff, Nat.reduceBEq, Nat.reduceDiv, Nat.reduceMod, Int.reduceToNat, Int.reduceNeg, Int.reduceAdd, Int.reduceSub, Int.reduceMul, Int.reduceEq, Int.reduceNe, Int.reduceLT, Int.reduceLE, Int.reduceGT, Int.reduceGE, f0, f3, f7, hown]
    by_cases hbt : bad = true
    · subst hbt
      have h : LF := by
        rcases hst with ⟨h, -⟩ | ⟨h, -⟩ | ⟨-, -, h⟩
        · cases h
        · cases h
        · exact h
      simp -implicitDefEqProofs (maxSteps := 1000000) (disch := omega) only [↓xsP, ↓vc_seq, xsQ, xsT, xsR, xsD, ↓reduceIte, reduceCtorEq, eq_self, ne_eq, imp_self, forall_const, Nat.reduceEqDiff, Nat.reduceAdd, Nat.reduceSub, Nat.reduceMul, Nat.reduceLT, Nat.reduceLeDiff, Nat.reduceBEq, Nat.reduceDiv, Nat.reduceMod, Int.reduceToNat, Int.reduceNeg, Int.reduceAdd, Int.reduceSub, Int.reduceMul, Int.reduceEq, Int.reduceNe, Int.reduceLT, Int.reduceLE, Int.reduceGT, Int.reduceGE, f0, f3, f7]
      exact ⟨xp, ps, b, true, hS, hP, hb, by omega, .inr ⟨rfl, h⟩⟩
    obtain rfl : bad = false := by simpa using hbt
    replace hst : (k = s.length - b + 2 ∧ ∃ w, s.drop a = 91 :: w ∧ LInv w ps (s.drop b)) ∨ (k = 1 ∧ ps ≠ [] ∧ LF ∧ ¬ nd (s.drop b)) := by
      rcases hst with ⟨-, h⟩ | ⟨-, h⟩ | ⟨h, -⟩
      · exact .inl h
      · exact .inr h
      · cases h
    clear hbt
    simp -implicitDefEqProofs (maxSteps := 1000000) (disch := omega) only [↓xsP, xsQ, xsT, xsR, xsD, ↓reduceIte, reduceCtorEq, eq_self, ne_eq, imp_self, forall_const, Nat.reduceEqDiff, Nat.reduceAdd, Nat.reduceSub, Nat.reduceMul, Nat.reduceLT, Nat.reduceLeDiff, Nat.reduceBEq, Nat.reduceDiv, Nat.reduceMod, Int.reduceToNat, Int.reduceNeg, Int.reduceAdd, Int.reduceSub, Int.reduceMul, Int.reduceEq, Int.reduceNe, Int.reduceLT, Int.reduceLE, Int.reduceGT, Int.reduceGE, f0, f3, f7]
    refine vc_cut (fun fr' N' => ∃ b' bad', Sc B N' id id2 [.bool false, .int .i64 0, .int .i64 0, .int .i64 0, xp, .int .i64 0] s b' (rows ++ [ph]) (.ms id1 0 (rows.length + 1)) bad' ∧ Pq B N' xp ps ∧ b' ≤ s.length ∧ fr' 0 = .l (.ptr id 0 0) ∧ fr' 3 = .l (.int .i64 rows.length) ∧ fr' 7 = .l (.ptr id2 0 0) ∧
      ((bad' = false ∧ s.length - b' + 2 ≤ k ∧ ∃ w, s.drop a = 91 :: w ∧ Gd w ps (s.drop b')) ∨ (bad' = true ∧ LF))) ?_ ?_
    · have hnod := hS.nod
      have hln : ∀ X : Mem, lenA Go.Proofs.Tryd.prog X 44 (.l xp) = some (.l (.int .i64 ps.length)) := fun X => by
        rcases hP with ⟨rfl, rfl⟩ | ⟨idp, rfl, _, _⟩ <;> simp only [lenA, ti_44] <;> rfl
      simp only [lenA, ti_44] at hln
      by_cases hp0 : ps = []
      · have q0 : decide ((ps.length : Int) > 0) = false := decide_eq_false (by rw [hp0]; decide)
        simp -implicitDefEqProofs (maxSteps := 1000000) (disch := omega) only [↓xsP, ↓vc_seq, xsQ, xsT, xsR, xsD, ↓reduceIte, reduceCtorEq, eq_self, ne_eq, imp_self, forall_const, Nat.reduceEqDiff, Nat.reduceAdd, Nat.reduceSub, Nat.reduceMul, Nat.reduceLT, Nat.reduceLeDiff, Nat.reduceBEq, Nat.reduceDiv, Nat.reduceMod, Int.reduceToNat, Int.reduceNeg, Int.reduceAdd, Int.reduceSub, Int.reduceMul, Int.reduceEq, Int.reduceNe, Int.reduceLT, Int.reduceLE, Int.reduceGT, Int.reduceGE, f0, f3, f7, hnod, hln, q0]
        refine ⟨b, false, hS, hP, hb, ?_⟩
        rcases hst with ⟨rfl, w, h1, h2⟩ | ⟨-, h, -⟩
        · exact .inl ⟨rfl, Nat.le_refl _, w, h1, _, h2, h124, by rw [if_pos hp0]⟩
        · exact absurd hp0 h
      · have q0 : decide ((ps.length : Int) > 0) = true := decide_eq_true (by have := List.length_pos_iff.2 hp0; omega)
        simp -implicitDefEqProofs (maxSteps := 1000000) (disch := omega) only [↓xsP, ↓vc_seq, xsQ, xsT, xsR, xsD, ↓reduceIte, reduceCtorEq, eq_self, ne_eq, imp_self, forall_const, Nat.reduceEqDiff, Nat.reduceAdd, Nat.reduceSub, Nat.reduceMul, Nat.reduceLT, Nat.reduceLeDiff, Nat.reduceBEq, Nat.reduceDiv, Nat.reduceMod, Int.reduceToNat, Int.reduceNeg, Int.reduceAdd, Int.reduceSub, Int.reduceMul, Int.reduceEq, Int.reduceNe, Int.reduceLT, Int.reduceLE, Int.reduceGT, Int.reduceGE, f0, f3, f7, hnod, hln, q0]
        refine callI_of ((must_sc hS hP hs hb 44).mono ?_)
        rintro _ N' ⟨b', bad', hS', hP', hb', h⟩
        simp -implicitDefEqProofs (maxSteps := 1000000) (disch := omega) only [↓xsP, ↓vc_seq, xsQ, xsT, xsR, xsD, ↓reduceIte, reduceCtorEq, eq_self, ne_eq, imp_self, forall_const, Nat.reduceEqDiff, Nat.reduceAdd, Nat.reduceSub, Nat.reduceMul, Nat.reduceLT, Nat.reduceLeDiff, Nat.reduceBEq, Nat.reduceDiv, Nat.reduceMod, Int.reduceToNat, Int.reduceNeg, Int.reduceAdd, Int.reduceSub, Int.reduceMul, Int.reduceEq, Int.reduceNe, Int.reduceLT, Int.reduceLE, Int.reduceGT, Int.reduceGE, f0, f3, f7]
        refine ⟨b', bad', hS', hP', hb', ?_⟩
        rcases hst with ⟨rfl, w, h1, h2⟩ | ⟨-, -, hL, hnd⟩
        · rcases h with ⟨rfl, h⟩ | ⟨rfl, h⟩
          · have hlen := congrArg List.length h
            simp only [List.length_drop, List.length_cons] at hlen
            exact .inl ⟨rfl, by omega, w, h1, _, h2, h124, by rw [if_neg hp0]; exact h⟩
          · refine .inr ⟨rfl, hlost w h1 (h2.none h124 fun w' p t hw => ?_)⟩
            rw [if_neg hp0] at hw
            rw [hw] at h
            exact absurd rfl h
        · rcases h with ⟨rfl, h⟩ | ⟨rfl, h⟩
          · rw [h] at hnd
            exact absurd (nd_cons (by decide)) hnd
          · exact .inr ⟨rfl, hL⟩
    have hk1 : 1 ≤ k := by rcases hst with ⟨h, -⟩ | ⟨h, -⟩ <;> omega
    clear hst hS hP hown f0 f3 f7 hb h124
    rintro fr N ⟨b, bad, hS, hP, hb, f0, f3, f7, hst⟩
    simp -implicitDefEqProofs (maxSteps := 1000000) (disch := omega) only [↓xsP, ↓vc_seq, xsQ, xsT, xsR, xsD, ↓reduceIte, reduceCtorEq, eq_self, ne_eq, imp_self, forall_const, Nat.reduceEqDiff, Nat.reduceAdd, Nat.reduceSub, Nat.reduceMul, Nat.reduceLT, Nat.reduceLeDiff, Nat.reduceBEq, Nat.reduceDiv, Nat.reduceMod, Int.reduceToNat, Int.reduceNeg, Int.reduceAdd, Int.reduceSub, Int.reduceMul, Int.reduceEq, Int.reduceNe, Int.reduceLT, Int.reduceLE, Int.reduceGT, Int.reduceGE, f0, f3, f7]
    refine callI_of ((number_sc hS hP hs hb).mono ?_)
    rintro _ N ⟨v1, b2, bad2, rfl, hS2, hP2, hb2, hst2⟩
    clear hS hP
    simp -implicitDefEqProofs (maxSteps := 1000000) (disch := omega) only [↓xsP, ↓vc_seq, xsQ, xsT, xsR, xsD, ↓reduceIte, reduceCtorEq, eq_self, ne_eq, imp_self, forall_const, Nat.reduceEqDiff, Nat.reduceAdd, Nat.reduceSub, Nat.reduceMul, Nat.reduceLT, Nat.reduceLeDiff, Nat.reduceBEq, Nat.reduceDiv, Nat.reduceMod, Int.reduceToNat, Int.reduceNeg, Int.reduceAdd, Int.reduceSub, Int.reduceMul, Int.reduceEq, Int.reduceNe, Int.reduceLT, Int.reduceLE, Int.reduceGT, Int.reduceGE, f0, f3, f7]
    refine callI_of ((must_sc hS2 hP2 hs hb2 58).mono ?_)
    rintro _ N ⟨b3, bad3, hS3, hP3, hb3, hst3⟩
    replace hst3 : (bad3 = false ∧ s.length - b3 + 2 < k ∧ ∃ w w0, s.drop a = 91 :: w ∧ Gd w ps w0 ∧ NumAt w0 v1 (58 :: s.drop b3)) ∨ (bad3 = true ∧ LF) := by
      rcases hst with ⟨rfl, hk, w, h1, h2⟩ | ⟨rfl, h⟩
      · have key : (∀ v t, ¬ NumAt (s.drop b) v (58 :: t)) → LF := fun h => hlost w h1 (h2.lost fun p t ⟨u, g1, _⟩ => h _ _ g1)
        rcases hst2 with ⟨rfl, h3⟩ | ⟨rfl, h3, hnd⟩ | ⟨rfl, h3⟩
        · rcases hst3 with ⟨rfl, h⟩ | ⟨rfl, h⟩
          · have hlen := congrArg List.length h
            have hl3 := numAt_len h3
            simp only [List.length_drop, List.length_cons] at hlen hl3
            exact .inl ⟨rfl, by omega, w, _, h1, h2, by rw [← h]; exact h3⟩
          · refine .inr ⟨rfl, key fun v t hn => ?_⟩
            rw [← (numAt_uniq hn h3).2] at h
            exact absurd rfl h
        · rcases hst3 with ⟨rfl, h⟩ | ⟨rfl, h⟩
          · rw [h] at hnd
            exact absurd (nd_cons (by decide)) hnd
          · exact .inr ⟨rfl, key fun v t => h3 _ _⟩
        · rcases hst3 with ⟨rfl, h⟩ | ⟨rfl, h⟩
          · exact .inr ⟨rfl, key fun v t => h3 _ _⟩
          · exact .inr ⟨rfl, key fun v t => h3 _ _⟩
      · have hb3t : bad2 = true := by rcases hst2 with ⟨h, -⟩ | ⟨h, -⟩ | ⟨h, -⟩ <;> exact h
        rcases hst3 with ⟨h4, -⟩ | ⟨h4, -⟩
        · exact .inr ⟨h4.trans hb3t, h⟩
        · exact .inr ⟨h4, h⟩
    clear hst hst2 hS2 hP2
    simp -implicitDefEqProofs (maxSteps := 1000000) (disch := omega) only [↓xsP, ↓vc_seq, xsQ, xsT, xsR, xsD, ↓reduceIte, reduceCtorEq, eq_self, ne_eq, imp_self, forall_const, Nat.reduceEqDiff, Nat.reduceAdd, Nat.reduceSub, Nat.reduceMul, Nat.reduceLT, Nat.reduceLeDiff, Nat.reduceBEq, Nat.reduceDiv, Nat.reduceMod, Int.reduceToNat, Int.reduceNeg, Int.reduceAdd, Int.reduceSub, Int.reduceMul, Int.reduceEq, Int.reduceNe, Int.reduceLT, Int.reduceLE, Int.reduceGT, Int.reduceGE, f0, f3, f7]
    have hown := hS3.own
    have hnod := hS3.nod
    obtain ⟨v2, b4, ok, h34, hb4, hv2, hst4, hnum⟩ := number18_spec s hs b3 hb3
    have hps2 : ps.length + 1 ≤ s.length + 2 := by omega
    have hfin : ∀ (N' : Mem) (xp' : Lf), Sc B N' id id2 [.bool false, .int .i64 0, .int .i64 0, .int .i64 0, xp', .int .i64 0] s b4 (rows ++ [ph]) (.ms id1 0 (rows.length + 1)) (bad3 || !ok) → Pq B N' xp' (ps ++ [⟨v1, v2⟩]) → ∃ k' M'', k' < k ∧ M''.le N' ∧
        ∃ xp ps b bad, Sc B M'' id id2 [.bool false, .int .i64 0, .int .i64 0, .int .i64 0, xp, .int .i64 0] s b (rows ++ [ph]) (.ms id1 0 (rows.length + 1)) bad ∧ Pq B M'' xp ps ∧ b ≤ s.length ∧ ps.length + k' ≤ s.length + 2 ∧
          ((bad = false ∧ k' = s.length - b + 2 ∧ ∃ w, s.drop a = 91 :: w ∧ LInv w ps (s.drop b)) ∨ (bad = false ∧ k' = 1 ∧ ¬ ps = [] ∧ LF ∧ ¬ nd (s.drop b)) ∨ (bad = true ∧ k' = 0 ∧ LF)) := fun N' xp' hS hP => by
      have hpl' : (ps ++ [(⟨v1, v2⟩ : Pr)]).length = ps.length + 1 := by simp
      rcases hst3 with ⟨rfl, hk, w, w0, h1, h2, h3⟩ | ⟨rfl, h⟩
      · have key : (∀ v t, ¬ NumAt (s.drop b3) v t) → LF := fun h => hlost w h1 (h2.lost fun p t ⟨u, g1, g2⟩ => by
          have e := (numAt_uniq g1 h3).2
          injection e with _ e
          rw [e] at g2
          exact h _ _ g2)
        rcases hst4 with ⟨rfl, h4⟩ | ⟨rfl, h4, hnd⟩ | ⟨rfl, h4⟩
        · exact ⟨s.length - b4 + 2, N', by omega, Mem.le_refl _, xp', _, b4, _, hS, hP, hb4, by omega, .inl ⟨rfl, rfl, w, h1, h2.step ⟨_, h3, h4⟩⟩⟩
        · exact ⟨1, N', by omega, Mem.le_refl _, xp', _, b4, _, hS, hP, hb4, by omega, .inr (.inl ⟨rfl, rfl, by simp, key h4, hnd⟩)⟩
        · exact ⟨0, N', by omega, Mem.le_refl _, xp', _, b4, _, hS, hP, hb4, by omega, .inr (.inr ⟨rfl, rfl, key h4⟩)⟩
      · exact ⟨0, N', by omega, Mem.le_refl _, xp', _, b4, _, hS, hP, hb4, by omega, .inr (.inr ⟨rfl, rfl, h⟩)⟩
    have hBn : ∀ {i : Nat}, (∀ j, i ≤ j → N j = none) → B i = none := fun {i} hi => by
      cases hb : B i with
      | none => rfl
      | some bk => have := hi i (Nat.le_refl _); rw [hS3.le _ _ hb] at this; cases this
    rcases hP3 with ⟨rfl, rfl⟩ | ⟨idp, rfl, hpr, hb3i⟩
    · refine xwrite (fun n0 => [ (4, id), (9, id2)]) [4, 9] [6, 7] [[4], [4], [4], [], [], [], [], [], [], []] (by kernel_rfl) (by kernel_rfl) (by kernel_rfl) (by kernel_rfl) (fun n0 hn0 => ⟨rfl, ?_, ?_⟩)
      · exact TOk_cons (.inl (lt_of_bnd hn0 hown)) (TOk_cons (.inl (lt_of_bnd hn0 hnod)) (TOk_nil _ _))
      have z1 := lt_of_bnd hn0 hown
      have z2 := lt_of_bnd hn0 hnod
      simp -implicitDefEqProofs (maxSteps := 1000000) (disch := omega) only [↓xsP, ↓vc_seq, xsQ, xsT, xsR, xsD, ↓reduceIte, reduceCtorEq, eq_self, ne_eq, imp_self, forall_const, Nat.reduceEqDiff, Nat.reduceAdd, Nat.reduceSub, Nat.reduceMul, Nat.reduceLT, Nat.reduceLeDiff, Nat.reduceBEq, Nat.reduceDiv, Nat.reduceMod, Int.reduceToNat, Int.reduceNeg, Int.reduceAdd, Int.reduceSub, Int.reduceMul, Int.reduceEq, Int.reduceNe, Int.reduceLT, Int.reduceLE, Int.reduceGT, Int.reduceGE, f0, f3, f7, hnod]
      refine wcallI_eff (v := .l (.int .i64 v2)) (e := [(id, some (scB s b4 (.ms id1 0 (rows.length + 1)) (bad3 || !ok)))]) (fun M' hle => (hnum _ bad3 id M' (hle _ _ hS3.own)).mono ?_) ?_
      · rintro _ _ ⟨rfl, rfl⟩
        exact ⟨rfl, Mem.le_refl _⟩
      simp -implicitDefEqProofs (maxSteps := 1000000) (disch := omega) only [↓xsP, ↓vc_seq, xsQ, xsT, xsR, xsD, ↓reduceIte, reduceCtorEq, eq_self, ne_eq, imp_self, forall_const, Nat.reduceEqDiff, Nat.reduceAdd, Nat.reduceSub, Nat.reduceMul, Nat.reduceLT, Nat.reduceLeDiff, Nat.reduceBEq, Nat.reduceDiv, Nat.reduceMod, Int.reduceToNat, Int.reduceNeg, Int.reduceAdd, Int.reduceSub, Int.reduceMul, Int.reduceEq, Int.reduceNe, Int.reduceLT, Int.reduceLE, Int.reduceGT, Int.reduceGE, f0, f3, f7, hnod]
      refine ⟨.inl (by decide), ?_⟩
      refine wapp_sb ti_44 rfl ti_79 (by kernel_rfl) (by decide) (by decide) SB.nil (bs := [(Pr.mk v1 v2).row]) (by unfold srcRows; rw [if_pos rfl]; simp only [Mem.set_eq]; rfl) (by simp) (by simp) ?_
      simp only [dl, List.map_nil, List.map_cons, List.nil_append, List.cons_append]
      simp -implicitDefEqProofs (maxSteps := 1000000) (disch := omega) only [↓xsP, ↓vc_seq, xsQ, xsT, xsR, xsD, ↓reduceIte, reduceCtorEq, eq_self, ne_eq, imp_self, forall_const, Nat.reduceEqDiff, Nat.reduceAdd, Nat.reduceSub, Nat.reduceMul, Nat.reduceLT, Nat.reduceLeDiff, Nat.reduceBEq, Nat.reduceDiv, Nat.reduceMod, Int.reduceToNat, Int.reduceNeg, Int.reduceAdd, Int.reduceSub, Int.reduceMul, Int.reduceEq, Int.reduceNe, Int.reduceLT, Int.reduceLE, Int.reduceGT, Int.reduceGE, f0, f3, f7, hnod]
      refine ⟨.inl (by decide), hfin _ (.ms (n0 + 7) 0 1) ?_ ?_⟩
      · have h1 := hS3.set b4 (bad3 || !ok)
        refine h1.to (fun j hj _ bk hb => ?_) (Mem.set_eq _ _ _)
        have hjn : j < n0 := lt_of_bnd (M := N.set id (scB s b4 (.ms id1 0 (rows.length + 1)) (bad3 || !ok))) (fun i hi => by rw [Mem.set_ne _ _ _ _ (by omega)]; exact hn0 i hi) hb
        rw [Mem.set_ne _ _ _ _ (Ne.symm hj), Mem.set_ne _ _ _ _ (by omega), Mem.set_ne _ _ _ _ (by omega)]
        exact hb
      · exact .inr ⟨n0 + 7, rfl, by rw [Mem.set_ne _ _ _ _ (by omega), Mem.set_eq]; rfl, hBn fun j hj => hn0 j (by omega)⟩
    · have hbi := hb3i
      refine xwrite (fun n0 => [ (4, id), (7, idp), (9, id2)]) [4, 7, 9] [6, 7] [[4], [4], [4], [], [], [], [], [], [], []] (by kernel_rfl) (by kernel_rfl) (by kernel_rfl) (by kernel_rfl) (fun n0 hn0 => ⟨rfl, ?_, ?_⟩)
      · exact TOk_cons (.inl (lt_of_bnd hn0 hown)) (TOk_cons (.inl (lt_of_bnd hn0 hpr)) (TOk_cons (.inl (lt_of_bnd hn0 hnod)) (TOk_nil _ _)))
      have zp := lt_of_bnd hn0 hpr
      have zip : id ≠ idp := mem_ne_ty hS3.own hpr (by decide)
      have zp2 : idp ≠ id2 := mem_ne_ty hpr hnod (by decide)
      have z1 := lt_of_bnd hn0 hown
      have z2 := lt_of_bnd hn0 hnod
      simp -implicitDefEqProofs (maxSteps := 1000000) (disch := omega) only [↓xsP, ↓vc_seq, xsQ, xsT, xsR, xsD, ↓reduceIte, reduceCtorEq, eq_self, ne_eq, imp_self, forall_const, Nat.reduceEqDiff, Nat.reduceAdd, Nat.reduceSub, Nat.reduceMul, Nat.reduceLT, Nat.reduceLeDiff, Nat.reduceBEq, Nat.reduceDiv, Nat.reduceMod, Int.reduceToNat, Int.reduceNeg, Int.reduceAdd, Int.reduceSub, Int.reduceMul, Int.reduceEq, Int.reduceNe, Int.reduceLT, Int.reduceLE, Int.reduceGT, Int.reduceGE, f0, f3, f7, hnod]
      refine wcallI_eff (v := .l (.int .i64 v2)) (e := [(id, some (scB s b4 (.ms id1 0 (rows.length + 1)) (bad3 || !ok)))]) (fun M' hle => (hnum _ bad3 id M' (hle _ _ hS3.own)).mono ?_) ?_
      · rintro _ _ ⟨rfl, rfl⟩
        exact ⟨rfl, Mem.le_refl _⟩
      simp -implicitDefEqProofs (maxSteps := 1000000) (disch := omega) only [↓xsP, ↓vc_seq, xsQ, xsT, xsR, xsD, ↓reduceIte, reduceCtorEq, eq_self, ne_eq, imp_self, forall_const, Nat.reduceEqDiff, Nat.reduceAdd, Nat.reduceSub, Nat.reduceMul, Nat.reduceLT, Nat.reduceLeDiff, Nat.reduceBEq, Nat.reduceDiv, Nat.reduceMod, Int.reduceToNat, Int.reduceNeg, Int.reduceAdd, Int.reduceSub, Int.reduceMul, Int.reduceEq, Int.reduceNe, Int.reduceLT, Int.reduceLE, Int.reduceGT, Int.reduceGE, f0, f3, f7, hnod]
      refine ⟨.inl (by decide), ?_⟩
      refine wapp_ms _ _ _ _ _ 79 _ _ ti_44 rfl ti_79 (by kernel_rfl) (by decide) idp ps.length _ (rows := ps.map Pr.row) (keep := 0) [(Pr.mk v1 v2).row] (by rw [Mem.set_ne _ _ _ _ (by omega), Mem.set_ne _ _ _ _ zip]; exact hpr) (by unfold srcRows; rw [if_pos rfl]; simp only [Mem.set_eq]; rfl) (by simp) (Nat.zero_le _) ?_ ?_ ?_
      · simp only [List.length_map, List.length_cons, List.length_nil]; show _ * 16 ≤ _; omega
      · simp only [List.length_map, List.length_cons, List.length_nil]; omega
      rw [List.take_of_length_le (by rw [List.length_map]; exact Nat.le_refl _)]
      have hrow : ps.map Pr.row ++ [(Pr.mk v1 v2).row] = (ps ++ [Pr.mk v1 v2]).map Pr.row := by simp
      have hlen : (ps.map Pr.row).length + [(Pr.mk v1 v2).row].length = (ps ++ [Pr.mk v1 v2]).length := by simp
      rw [hrow]
      simp -implicitDefEqProofs (maxSteps := 1000000) (disch := omega) only [↓xsP, ↓vc_seq, xsQ, xsT, xsR, xsD, ↓reduceIte, reduceCtorEq, eq_self, ne_eq, imp_self, forall_const, Nat.reduceEqDiff, Nat.reduceAdd, Nat.reduceSub, Nat.reduceMul, Nat.reduceLT, Nat.reduceLeDiff, Nat.reduceBEq, Nat.reduceDiv, Nat.reduceMod, Int.reduceToNat, Int.reduceNeg, Int.reduceAdd, Int.reduceSub, Int.reduceMul, Int.reduceEq, Int.reduceNe, Int.reduceLT, Int.reduceLE, Int.reduceGT, Int.reduceGE, f0, f3, f7, hnod]
      refine ⟨.inl (by decide), hfin _ (.ms (n0 + 7) 0 (ps.length + 1)) ?_ ?_⟩
      · have h1 := hS3.set b4 (bad3 || !ok)
        refine h1.to (fun j hj hk bk hb => ?_) (Mem.set_eq _ _ _)
        have hjn : j < n0 := lt_of_bnd (M := N.set id (scB s b4 (.ms id1 0 (rows.length + 1)) (bad3 || !ok))) (fun i hi => by rw [Mem.set_ne _ _ _ _ (by omega)]; exact hn0 i hi) hb
        have hjp : idp ≠ j := fun e => by
          rw [← e] at hk
          rcases hk _ _ _ (by rw [Mem.set_ne _ _ _ _ zip]; exact hpr) with h | h
          · exact h rfl
          · exact h hb3i
        rw [Mem.set_ne _ _ _ _ (Ne.symm hj), Mem.set_ne _ _ _ _ (by omega), Mem.del_ne _ _ _ hjp, Mem.set_ne _ _ _ _ (by omega)]
        exact hb
      · refine .inr ⟨n0 + 7, ?_, ?_, hBn fun j hj => hn0 j (by omega)⟩
        · rw [List.length_append]; rfl
        · rw [Mem.set_ne _ _ _ _ (by omega), Mem.set_eq]
  rintro fr N ⟨xp, ps, b, bad, hS, hP, hb, hpl, f0, f3, f7, hst⟩
  simp -implicitDefEqProofs (maxSteps := 1000000) (disch := omega) only [↓xsP, ↓vc_seq, xsQ, xsT, xsR, xsD, ↓reduceIte, reduceCtorEq, eq_self, ne_eq, imp_self, forall_const, Nat.reduceEqDiff, Nat.reduceAdd, Nat.reduceSub, Nat.reduceMul, Nat.reduceLT, Nat.reduceLeDiff, Nat.reduceBEq, Nat.reduceDiv, Nat.reduceMod, Int.reduceToNat, Int.reduceNeg, Int.reduceAdd, Int.reduceSub, Int.reduceMul, Int.reduceEq, Int.reduceNe, Int.reduceLT, Int.reduceLE, Int.reduceGT, Int.reduceGE, f0, f3, f7]
  obtain ⟨N', hg, hS'⟩ := hP.frz hS
  refine callI_gs hg ?_
  clear hg hS hP
  have hnp : ∀ X, Pq B X .nils [] := fun X => .inl ⟨rfl, rfl⟩
  refine callI_of ((must_sc hS' (hnp _) hs hb 124).mono ?_)
  rintro _ N1 ⟨b1, bad1', hS1, -, hb1, hst1⟩
  replace hst1 : (bad1' = false ∧ ∃ w, s.drop a = 91 :: w ∧ LInv w ps (124 :: s.drop b1)) ∨ (bad1' = true ∧ LF) := by
    rcases hst with ⟨rfl, h124, w, h1, h2⟩ | ⟨rfl, h⟩
    · rcases hst1 with ⟨rfl, h⟩ | ⟨rfl, h⟩
      · exact .inl ⟨rfl, w, h1, by rw [← h]; exact h2⟩
      · exact absurd h124 h
    · rcases hst1 with ⟨rfl, -⟩ | ⟨rfl, -⟩
      · exact .inr ⟨rfl, h⟩
      · exact .inr ⟨rfl, h⟩
  clear hst hS'
  simp -implicitDefEqProofs (maxSteps := 1000000) (disch := omega) only [↓xsP, ↓vc_seq, xsQ, xsT, xsR, xsD, ↓reduceIte, reduceCtorEq, eq_self, ne_eq, imp_self, forall_const, Nat.reduceEqDiff, Nat.reduceAdd, Nat.reduceSub, Nat.reduceMul, Nat.reduceLT, Nat.reduceLeDiff, Nat.reduceBEq, Nat.reduceDiv, Nat.reduceMod, Int.reduceToNat, Int.reduceNeg, Int.reduceAdd, Int.reduceSub, Int.reduceMul, Int.reduceEq, Int.reduceNe, Int.reduceLT, Int.reduceLE, Int.reduceGT, Int.reduceGE, f0, f3, f7]
  refine callI_of ((number_sc hS1 (hnp _) hs hb1).mono ?_)
  rintro _ N2 ⟨v, b2, bad2, rfl, hS2, -, hb2, hst2⟩
  have hnod := hS2.nod
  simp -implicitDefEqProofs (maxSteps := 1000000) (disch := omega) only [↓xsP, ↓vc_seq, xsQ, xsT, xsR, xsD, ↓reduceIte, reduceCtorEq, eq_self, ne_eq, imp_self, forall_const, Nat.reduceEqDiff, Nat.reduceAdd, Nat.reduceSub, Nat.reduceMul, Nat.reduceLT, Nat.reduceLeDiff, Nat.reduceBEq, Nat.reduceDiv, Nat.reduceMod, Int.reduceToNat, Int.reduceNeg, Int.reduceAdd, Int.reduceSub, Int.reduceMul, Int.reduceEq, Int.reduceNe, Int.reduceLT, Int.reduceLE, Int.reduceGT, Int.reduceGE, f0, f3, f7, hnod]
  have hS3 := hS2.put [.bool false, .int .i64 0, .int .i64 0, .int .i64 0, .sl (ps.map Pr.row), .int .i64 v]
  generalize N2.set id2 _ = N3 at hS3 ⊢
  refine callI_of ((must_sc hS3 (hnp _) hs hb2 93).mono ?_)
  rintro _ N4 ⟨b3, bad3, hS4, -, hb3, hst3⟩
  replace hst3 : (bad3 = false ∧ TreeAt (s.drop a) (.leaf ps v) (s.drop b3)) ∨ (bad3 = true ∧ LF) := by
    rcases hst1 with ⟨rfl, w, h1, h2⟩ | ⟨rfl, h⟩
    · have key : (∀ v t, ¬ NumAt (s.drop b1) v (93 :: t)) → LF := fun h => hlost w h1 fun qs st t ⟨u, g1, g2⟩ => by
        obtain ⟨-, rfl⟩ := h2.done.1 g1
        exact h _ _ g2
      rcases hst2 with ⟨rfl, h3⟩ | ⟨rfl, h3, hnd⟩ | ⟨rfl, h3⟩
      · rcases hst3 with ⟨rfl, h⟩ | ⟨rfl, h⟩
        · exact .inl ⟨rfl, w, s.drop b1, h1, h2.done.2 ⟨rfl, rfl⟩, by rw [← h]; exact h3⟩
        · refine .inr ⟨rfl, key fun v t hn => ?_⟩
          rw [← (numAt_uniq hn h3).2] at h
          exact absurd rfl h
      · rcases hst3 with ⟨rfl, h⟩ | ⟨rfl, h⟩
        · rw [h] at hnd
          exact absurd (nd_cons (by decide)) hnd
        · exact .inr ⟨rfl, key fun v t => h3 _ _⟩
      · rcases hst3 with ⟨rfl, h⟩ | ⟨rfl, h⟩
        · exact .inr ⟨rfl, key fun v t => h3 _ _⟩
        · exact .inr ⟨rfl, key fun v t => h3 _ _⟩
    · have hb3t : bad2 = true := by rcases hst2 with ⟨h, -⟩ | ⟨h, -⟩ | ⟨h, -⟩ <;> exact h
      rcases hst3 with ⟨h4, -⟩ | ⟨h4, -⟩
      · exact .inr ⟨h4.trans hb3t, h⟩
      · exact .inr ⟨h4, h⟩
  clear hst1 hst2 hS1 hS2 hS3 hnod
  simp -implicitDefEqProofs (maxSteps := 1000000) (disch := omega) only [↓xsP, ↓vc_seq, xsQ, xsT, xsR, xsD, ↓reduceIte, reduceCtorEq, eq_self, ne_eq, imp_self, forall_const, Nat.reduceEqDiff, Nat.reduceAdd, Nat.reduceSub, Nat.reduceMul, Nat.reduceLT, Nat.reduceLeDiff, Nat.reduceBEq, Nat.reduceDiv, Nat.reduceMod, Int.reduceToNat, Int.reduceNeg, Int.reduceAdd, Int.reduceSub, Int.reduceMul, Int.reduceEq, Int.reduceNe, Int.reduceLT, Int.reduceLE, Int.reduceGT, Int.reduceGE, f0, f3, f7]
  have hown := hS4.own
  rw [scB] at hown
  have hnod := hS4.nod
  obtain ⟨idn, hxe, hn, hBn, hni2⟩ := hS4.nds
  obtain rfl : id1 = idn := by injection hxe
  have hini : id ≠ id1 := scB_ne hS4.own hn
  refine xwrite (fun n0 => [ (7, id1)]) [7] [] [[], [], [], [], [], [], [], []] (by kernel_rfl) (by kernel_rfl) (by kernel_rfl) (by kernel_rfl) (fun n0 hn0 => ⟨rfl, ?_, ?_⟩)
  · exact TOk_cons (.inl (lt_of_bnd hn0 hn)) (TOk_nil _ _)
  have y1 := lt_of_bnd hn0 hn
  have y2 := lt_of_bnd hn0 hnod
  have y3 := lt_of_bnd hn0 hown
  have hget : (rows ++ [ph])[rows.length]? = some ph := get_mid rows [] ph
  have hset : ∀ y : List Lf, (rows ++ [ph]).set rows.length y = rows ++ [y] := fun y => set_mid rows [] ph y
  have hdr : ph.drop 6 = [] := List.drop_of_length_le (by omega)
  simp -implicitDefEqProofs (maxSteps := 1000000) (disch := omega) only [↓xsP, ↓vc_seq, xsQ, xsT, xsR, xsD, ↓reduceIte, reduceCtorEq, eq_self, ne_eq, imp_self, forall_const, Nat.reduceEqDiff, Nat.reduceAdd, Nat.reduceSub, Nat.reduceMul, Nat.reduceLT, Nat.reduceLeDiff, Nat.reduceBEq, Nat.reduceDiv, Nat.reduceMod, Int.reduceToNat, Int.reduceNeg, Int.reduceAdd, Int.reduceSub, Int.reduceMul, Int.reduceEq, Int.reduceNe, Int.reduceLT, Int.reduceLE, Int.reduceGT, Int.reduceGE, f0, f3, f7, hown, hnod, hn, hget, hset, hdr, hph6]
  refine fin_ok (Mem.le_refl _) ⟨_, b3, bad3, rows ++ [(leafN ps v).row], .ms id1 0 (rows.length + 1), rfl, ⟨?_, hS4.bid, Mem.le_set hS4.le hBn, .inr ⟨id1, by simp, Mem.set_eq _ _ _, hBn⟩⟩, hb3, ?_, by simp, by simp; omega, ?_⟩
  · rw [Mem.set_ne _ _ _ _ (Ne.symm hini)]
    exact hS4.own
  · intro r hr
    rcases List.mem_append.1 hr with hr | hr
    · exact h6 r hr
    · rw [List.mem_singleton.1 hr]; rfl
  · rcases hst3 with ⟨rfl, h⟩ | ⟨rfl, h⟩
    · exact .inl ⟨rfl, rfl, _, h, rfl⟩
    · rw [hLF] at h
      exact .inr ⟨rfl, fun T t hT => absurd hT (h T t)⟩
/-! ### ParseTree -/
theorem rparse_spec (s : List UInt8) (hs : s.length ≤ 1000000) (M : Mem) :
    XCalls Go.Proofs.Tryd.prog 11 [.l (txt s)] M fun r M' => M' = M ∧ ((∃ T, ParsOk s T ∧ r = .tup [trA 0 (preN 0 T), .l (.int .i64 0)]) ∨ ((∀ T, ¬ ParsOk s T) ∧ r = .tup [trA 0 [], .l (.int .i64 1)])) := by
  refine xcalls_intro (rs := [.cell 2 24, .tmp 3]) Go.Proofs.Tryd.func11 rfl (by kernel_rfl) rfl rfl (by kernel_rfl) (by simp) ?_
  simp -implicitDefEqProofs (maxSteps := 1000000) (disch := omega) only [↓xsP, ↓vc_seq, xsQ, xsT, xsR, xsD, ↓reduceIte, reduceCtorEq, eq_self, ne_eq, imp_self, forall_const, Nat.reduceEqDiff, Nat.reduceAdd, Nat.reduceSub, Nat.reduceMul, Nat.reduceLT, Nat.reduceLeDiff, Nat.reduceBEq, Nat.reduceDiv, Nat.reduceMod, Int.reduceToNat, Int.reduceNeg, Int.reduceAdd, Int.reduceSub, Int.reduceMul, Int.reduceEq, Int.reduceNe, Int.reduceLT, Int.reduceLE, Int.reduceGT, Int.reduceGE, txt]
  refine newI_intro fun id2 hid2 => ?_
  have hle2 : ∀ X : Blk, M.le (M.set id2 X) := fun X => le_new (Mem.le_refl _) hid2
  simp -implicitDefEqProofs (maxSteps := 1000000) (disch := omega) only [↓xsP, ↓vc_seq, xsQ, xsT, xsR, xsD, ↓reduceIte, reduceCtorEq, eq_self, ne_eq, imp_self, forall_const, Nat.reduceEqDiff, Nat.reduceAdd, Nat.reduceSub, Nat.reduceMul, Nat.reduceLT, Nat.reduceLeDiff, Nat.reduceBEq, Nat.reduceDiv, Nat.reduceMod, Int.reduceToNat, Int.reduceNeg, Int.reduceAdd, Int.reduceSub, Int.reduceMul, Int.reduceEq, Int.reduceNe, Int.reduceLT, Int.reduceLE, Int.reduceGT, Int.reduceGE, txt, ba_size]
  by_cases h1 : s.length ≤ 100000
  rotate_left
  · have q1 : decide ((s.length : Int) > 100000) = true := decide_eq_true (by omega)
    simp -implicitDefEqProofs (maxSteps := 1000000) (disch := omega) only [↓xsP, ↓vc_seq, xsQ, xsT, xsR, xsD, ↓reduceIte, reduceCtorEq, eq_self, ne_eq, imp_self, forall_const, Nat.reduceEqDiff, Nat.reduceAdd, Nat.reduceSub, Nat.reduceMul, Nat.reduceLT, Nat.reduceLeDiff, Nat.reduceBEq, Nat.reduceDiv, Nat.reduceMod, Int.reduceToNat, Int.reduceNeg, Int.reduceAdd, Int.reduceSub, Int.reduceMul, Int.reduceEq, Int.reduceNe, Int.reduceLT, Int.reduceLE, Int.reduceGT, Int.reduceGE, q1, txt, ba_size]
    refine finI_of (XFin.wk (XFin.le (M' := M) (fun k bk hk => ?_) ⟨rfl, .inr ⟨fun T h => h1 h.1, rfl⟩⟩))
    have := lt_of_bnd hid2 hk
    simp (disch := omega) only [Mem.set_ne, hk]
  have q1 : decide ((s.length : Int) > 100000) = false := decide_eq_false (by omega)
  simp -implicitDefEqProofs (maxSteps := 1000000) (disch := omega) only [↓xsP, ↓vc_seq, xsQ, xsT, xsR, xsD, ↓reduceIte, reduceCtorEq, eq_self, ne_eq, imp_self, forall_const, Nat.reduceEqDiff, Nat.reduceAdd, Nat.reduceSub, Nat.reduceMul, Nat.reduceLT, Nat.reduceLeDiff, Nat.reduceBEq, Nat.reduceDiv, Nat.reduceMod, Int.reduceToNat, Int.reduceNeg, Int.reduceAdd, Int.reduceSub, Int.reduceMul, Int.reduceEq, Int.reduceNe, Int.reduceLT, Int.reduceLE, Int.reduceGT, Int.reduceGE, q1, txt, ba_size]
  refine newI_intro fun id4 hid4 => ?_
  obtain ⟨k24, hid4'⟩ := bnd_new hid4
  simp -implicitDefEqProofs (maxSteps := 1000000) (disch := omega) only [↓xsP, ↓vc_seq, xsQ, xsT, xsR, xsD, ↓reduceIte, reduceCtorEq, eq_self, ne_eq, imp_self, forall_const, Nat.reduceEqDiff, Nat.reduceAdd, Nat.reduceSub, Nat.reduceMul, Nat.reduceLT, Nat.reduceLeDiff, Nat.reduceBEq, Nat.reduceDiv, Nat.reduceMod, Int.reduceToNat, Int.reduceNeg, Int.reduceAdd, Int.reduceSub, Int.reduceMul, Int.reduceEq, Int.reduceNe, Int.reduceLT, Int.reduceLE, Int.reduceGT, Int.reduceGE, q1, txt, ba_size]
  have hR : SSt (M.set id2 (.cells 24 [[.int .i64 0, .nils]] 0)) ((M.set id2 (.cells 24 [[.int .i64 0, .nils]] 0)).set id4 (scB s 0 .nils false)) id4 s 0 [] .nils false :=
    ⟨Mem.set_eq _ _ _, hid4 _ (Nat.le_refl _), le_new (Mem.le_refl _) hid4, .inl ⟨rfl, rfl⟩⟩
  refine callI_of ((scan_spec _ id4 2001 s 0 [] .nils _ hs (Nat.zero_le _) (by simp) (by simp) (fun r hr => by cases hr) hR).mono ?_)
  rintro r' N ⟨v, b, bad, rows, xn, rfl, hR1, hb, h6, -, hl2, hst⟩
  have hown := hR1.own
  rw [scB, txt] at hown
  have hNid2 := hR1.le _ _ (Mem.set_eq M id2 (.cells 24 [[.int .i64 0, .nils]] 0))
  simp -implicitDefEqProofs (maxSteps := 1000000) (disch := omega) only [↓xsP, ↓vc_seq, xsQ, xsT, xsR, xsD, ↓reduceIte, reduceCtorEq, eq_self, ne_eq, imp_self, forall_const, Nat.reduceEqDiff, Nat.reduceAdd, Nat.reduceSub, Nat.reduceMul, Nat.reduceLT, Nat.reduceLeDiff, Nat.reduceBEq, Nat.reduceDiv, Nat.reduceMod, Int.reduceToNat, Int.reduceNeg, Int.reduceAdd, Int.reduceSub, Int.reduceMul, Int.reduceEq, Int.reduceNe, Int.reduceLT, Int.reduceLE, Int.reduceGT, Int.reduceGE, hown, txt]
  refine newI_intro fun id5 hid5 => ?_
  have k5 := lt_of_bnd hid5 hR1.own
  have k52 := lt_of_bnd hid5 hNid2
  have hB2 : ∀ k bk, M k = some bk → k ≠ id2 ∧ k < id5 ∧ N k = some bk := fun k bk hk => by
    have h1 := lt_of_bnd hid2 hk
    have h2 := hR1.le _ _ (hle2 (.cells 24 [[.int .i64 0, .nils]] 0) _ _ hk)
    exact ⟨by omega, lt_of_bnd hid5 h2, h2⟩
  have hfail : (∀ T, ¬ ParsOk s T) → ∀ X : Mem, M.le X → XFin Go.Proofs.Tryd.prog (.tup [.agg [.int .i64 0, .nils], .l (.int .i64 1)]) X fun r M' => M' = M ∧ ((∃ T, ParsOk s T ∧ r = .tup [trA 0 (preN 0 T), .l (.int .i64 0)]) ∨ ((∀ T, ¬ ParsOk s T) ∧ r = .tup [trA 0 [], .l (.int .i64 1)])) := fun hno X hX =>
    XFin.wk (XFin.le hX ⟨rfl, .inr ⟨hno, rfl⟩⟩)
  have hX0 : ∀ Y Z : Blk, M.le ((N.set id5 Y).set id2 Z) := fun Y Z k bk hk => by
    obtain ⟨h1, h2, h3⟩ := hB2 k bk hk
    rw [Mem.set_ne _ _ _ _ (Ne.symm h1), Mem.set_ne _ _ _ _ (by omega)]
    exact h3
  simp -implicitDefEqProofs (maxSteps := 1000000) (disch := omega) only [↓xsP, ↓vc_seq, xsQ, xsT, xsR, xsD, ↓reduceIte, reduceCtorEq, eq_self, ne_eq, imp_self, forall_const, Nat.reduceEqDiff, Nat.reduceAdd, Nat.reduceSub, Nat.reduceMul, Nat.reduceLT, Nat.reduceLeDiff, Nat.reduceBEq, Nat.reduceDiv, Nat.reduceMod, Int.reduceToNat, Int.reduceNeg, Int.reduceAdd, Int.reduceSub, Int.reduceMul, Int.reduceEq, Int.reduceNe, Int.reduceLT, Int.reduceLE, Int.reduceGT, Int.reduceGE, hown, txt]
  rcases hst with ⟨rfl, -, T, hT, hrows⟩ | ⟨rfl, hno⟩
  rotate_left
  · simp -implicitDefEqProofs (maxSteps := 1000000) (disch := omega) only [↓xsP, ↓vc_seq, xsQ, xsT, xsR, xsD, ↓reduceIte, reduceCtorEq, eq_self, ne_eq, imp_self, forall_const, Nat.reduceEqDiff, Nat.reduceAdd, Nat.reduceSub, Nat.reduceMul, Nat.reduceLT, Nat.reduceLeDiff, Nat.reduceBEq, Nat.reduceDiv, Nat.reduceMod, Int.reduceToNat, Int.reduceNeg, Int.reduceAdd, Int.reduceSub, Int.reduceMul, Int.reduceEq, Int.reduceNe, Int.reduceLT, Int.reduceLE, Int.reduceGT, Int.reduceGE, hown, txt, hNid2]
    refine finI_of (hfail (fun T h => ?_) _ ?_)
    · have h2 := hno T [] h.2.1
      have h3 := h.2.2.1
      simp at h2
      omega
    · exact hX0 _ _
  rw [List.drop_zero] at hT
  rw [List.nil_append, List.length_nil] at hrows
  by_cases hbl : b = s.length
  rotate_left
  · have q2 : decide (¬ (b : Int) = (s.length : Int)) = true := decide_eq_true (by omega)
    simp -implicitDefEqProofs (maxSteps := 1000000) (disch := omega) only [↓xsP, ↓vc_seq, xsQ, xsT, xsR, xsD, ↓reduceIte, reduceCtorEq, eq_self, ne_eq, imp_self, forall_const, Nat.reduceEqDiff, Nat.reduceAdd, Nat.reduceSub, Nat.reduceMul, Nat.reduceLT, Nat.reduceLeDiff, Nat.reduceBEq, Nat.reduceDiv, Nat.reduceMod, Int.reduceToNat, Int.reduceNeg, Int.reduceAdd, Int.reduceSub, Int.reduceMul, Int.reduceEq, Int.reduceNe, Int.reduceLT, Int.reduceLE, Int.reduceGT, Int.reduceGE, hown, txt, ba_size, q2, hNid2]
    refine finI_of (hfail (fun U h => ?_) _ (hX0 _ _))
    have e := (treeAt_uniq h.2.1 hT).2
    have e2 := congrArg List.length e
    rw [List.length_drop, List.length_nil] at e2
    omega
  have q2 : decide (¬ (b : Int) = (s.length : Int)) = false := decide_eq_false (by omega)
  simp -implicitDefEqProofs (maxSteps := 1000000) (disch := omega) only [↓xsP, ↓vc_seq, xsQ, xsT, xsR, xsD, ↓reduceIte, reduceCtorEq, eq_self, ne_eq, imp_self, forall_const, Nat.reduceEqDiff, Nat.reduceAdd, Nat.reduceSub, Nat.reduceMul, Nat.reduceLT, Nat.reduceLeDiff, Nat.reduceBEq, Nat.reduceDiv, Nat.reduceMod, Int.reduceToNat, Int.reduceNeg, Int.reduceAdd, Int.reduceSub, Int.reduceMul, Int.reduceEq, Int.reduceNe, Int.reduceLT, Int.reduceLE, Int.reduceGT, Int.reduceGE, hown, txt, ba_size, q2]
  have hrl : rows.length = T.size := by rw [hrows, preR_len]
  have hTs := T.size_pos
  obtain ⟨idn, rfl, hn, hBn, hni⟩ := hR1.ms (fun e => by rw [e] at hrl; simp at hrl; omega)
  have hdn : s.drop b = [] := List.drop_of_length_le (by omega)
  rw [hdn] at hT
  have hpl : rows.length = (preN 0 T).length := by rw [hrl, preN_len]
  have hbd := treeAt_pok hT 0
  have kn5 := lt_of_bnd hid5 hn
  have hn2 : idn ≠ id2 := fun e => by
    rw [e, Mem.set_eq] at hBn
    cases hBn
  have hn' : (N.set id5 (.cells 24 [[.int .i64 0, .ms idn 0 rows.length]] 0)) idn = some (.cells 46 rows 0) := by rw [Mem.set_ne _ _ _ _ (by omega)]; exact hn
  rw [hpl] at hn' ⊢
  refine callI_gs (GStep.keep' (rows' := (preN 0 T).map Nd.row) hn' (by rw [hrows]; exact preR_wk T 0)) ?_
  have hQ : ∃ Q, Q = (N.set id5 (.cells 24 [[.int .i64 0, .ms idn 0 (preN 0 T).length]] 0)).set idn (.cells 46 ((preN 0 T).map Nd.row) ((preN 0 T).map Nd.row).length) ∧ Q id5 = some (.cells 24 [[.int .i64 0, .ms idn 0 (preN 0 T).length]] 0) ∧ Q id2 = some (.cells 24 [[.int .i64 0, .nils]] 0) ∧ Q idn = some (.cells 46 ((preN 0 T).map Nd.row) ((preN 0 T).map Nd.row).length) ∧ M.le Q := by
    refine ⟨_, rfl, ?_, ?_, Mem.set_eq _ _ _, fun k bk hk => ?_⟩
    · rw [Mem.set_ne _ _ _ _ (by omega), Mem.set_eq]
    · rw [Mem.set_ne _ _ _ _ hn2, Mem.set_ne _ _ _ _ (by omega)]
      exact hNid2
    · obtain ⟨g1, g2, g3⟩ := hB2 k bk hk
      have hnk : idn ≠ k := fun e => by
        have := hle2 (.cells 24 [[.int .i64 0, .nils]] 0) _ _ hk
        rw [← e, hBn] at this
        cases this
      rw [Mem.set_ne _ _ _ _ hnk, Mem.set_ne _ _ _ _ (by omega)]
      exact g3
  obtain ⟨Q, eQ, hQ5, hQ2, hQn, hMQ⟩ := hQ
  rw [← eQ]
  clear eQ
  refine callI_of (XCalls.mono (tree_rd hQn (by rw [List.length_map]; exact Nat.le_refl _) (rplain_spec 0 (preN 0 T) (by rw [preN_len]; omega) (fun x hx => by have := hbd x hx; omega) _)) ?_)
  have hgd : ∀ {k : Nat} {bk : Blk}, M k = some bk → k ≠ id2 := fun hk => by
    have := lt_of_bnd hid2 hk
    omega
  rintro _ _ ⟨rfl, ⟨hm, rfl⟩ | ⟨U, hU, rfl⟩⟩
  · simp -implicitDefEqProofs (maxSteps := 1000000) (disch := omega) only [↓xsP, ↓vc_seq, xsQ, xsT, xsR, xsD, ↓reduceIte, reduceCtorEq, eq_self, ne_eq, imp_self, forall_const, Nat.reduceEqDiff, Nat.reduceAdd, Nat.reduceSub, Nat.reduceMul, Nat.reduceLT, Nat.reduceLeDiff, Nat.reduceBEq, Nat.reduceDiv, Nat.reduceMod, Int.reduceToNat, Int.reduceNeg, Int.reduceAdd, Int.reduceSub, Int.reduceMul, Int.reduceEq, Int.reduceNe, Int.reduceLT, Int.reduceLE, Int.reduceGT, Int.reduceGE, trA]
    refine newI_intro fun id7 hid7 => ?_
    have k7 := lt_of_bnd hid7 hQ2
    simp -implicitDefEqProofs (maxSteps := 1000000) (disch := omega) only [↓xsP, ↓vc_seq, xsQ, xsT, xsR, xsD, ↓reduceIte, reduceCtorEq, eq_self, ne_eq, imp_self, forall_const, Nat.reduceEqDiff, Nat.reduceAdd, Nat.reduceSub, Nat.reduceMul, Nat.reduceLT, Nat.reduceLeDiff, Nat.reduceBEq, Nat.reduceDiv, Nat.reduceMod, Int.reduceToNat, Int.reduceNeg, Int.reduceAdd, Int.reduceSub, Int.reduceMul, Int.reduceEq, Int.reduceNe, Int.reduceLT, Int.reduceLE, Int.reduceGT, Int.reduceGE, trA, hQ2]
    refine finI_of (hfail (fun U h => ?_) _ ?_)
    · obtain rfl := (treeAt_uniq h.2.1 hT).1
      rw [(good_pre h.2.2.2 h.2.2.1).may] at hm
      cases hm
    · intro k bk hk
      have := lt_of_bnd hid7 (hMQ _ _ hk)
      rw [Mem.set_ne _ _ _ _ (Ne.symm (hgd hk)), Mem.set_ne _ _ _ _ (by omega)]
      exact hMQ _ _ hk
  · simp -implicitDefEqProofs (maxSteps := 1000000) (disch := omega) only [↓xsP, ↓vc_seq, xsQ, xsT, xsR, xsD, ↓reduceIte, reduceCtorEq, eq_self, ne_eq, imp_self, forall_const, Nat.reduceEqDiff, Nat.reduceAdd, Nat.reduceSub, Nat.reduceMul, Nat.reduceLT, Nat.reduceLeDiff, Nat.reduceBEq, Nat.reduceDiv, Nat.reduceMod, Int.reduceToNat, Int.reduceNeg, Int.reduceAdd, Int.reduceSub, Int.reduceMul, Int.reduceEq, Int.reduceNe, Int.reduceLT, Int.reduceLE, Int.reduceGT, Int.reduceGE, trA]
    refine newI_intro fun id7 hid7 => ?_
    have k7 := lt_of_bnd hid7 hQ2
    have k75 := lt_of_bnd hid7 hQ5
    have k7n := lt_of_bnd hid7 hQn
    simp -implicitDefEqProofs (maxSteps := 1000000) (disch := omega) only [↓xsP, ↓vc_seq, xsQ, xsT, xsR, xsD, ↓reduceIte, reduceCtorEq, eq_self, ne_eq, imp_self, forall_const, Nat.reduceEqDiff, Nat.reduceAdd, Nat.reduceSub, Nat.reduceMul, Nat.reduceLT, Nat.reduceLeDiff, Nat.reduceBEq, Nat.reduceDiv, Nat.reduceMod, Int.reduceToNat, Int.reduceNeg, Int.reduceAdd, Int.reduceSub, Int.reduceMul, Int.reduceEq, Int.reduceNe, Int.reduceLT, Int.reduceLE, Int.reduceGT, Int.reduceGE, trA, hQ2, hQ5]
    have hUT : U = T := by
      obtain ⟨pl, g1, -⟩ := hU.hang
      have := preN_hang (preN 0 T) T 0 (fun j hj => by rw [Nat.zero_add]) (by rw [preN_len]; omega)
      exact (g1.uniq this).1
    subst hUT
    have hsz := hU.few
    rw [preN_len] at hsz
    refine finI_of (XFin.frz idn (by rw [Mem.set_ne _ _ _ _ (Ne.symm hn2), Mem.set_ne _ _ _ _ (by omega)]; exact hQn) (XFin.le (M' := M) (fun k bk hk => ?_) ⟨rfl, .inl ⟨U, ⟨h1, hT, hsz, hU.wf⟩, ?_⟩⟩))
    · have := lt_of_bnd hid7 (hMQ _ _ hk)
      have hnk : idn ≠ k := fun e => by
        have := hle2 (.cells 24 [[.int .i64 0, .nils]] 0) _ _ hk
        rw [← e, hBn] at this
        cases this
      rw [Mem.set_ne _ _ _ _ hnk, Mem.set_ne _ _ _ _ (Ne.symm (hgd hk)), Mem.set_ne _ _ _ _ (by omega)]
      exact hMQ _ _ hk
    · simp only [frzA, frz1, frzL, List.map_cons, List.map_nil, Nat.zero_add, List.length_map, Nat.le_refl, and_self, if_true, List.drop_zero, trA]
      rw [List.take_of_length_le (by rw [List.length_map]; exact Nat.le_refl _)]
end Go.X
set_option linter.unusedVariables false
set_option linter.unusedSimpArgs false
set_option maxHeartbeats 20000000
set_option maxRecDepth 100000
namespace Go.X
open Go.Proofs.Tryd (prog)

theorem keys_both (root : Int) (ns : List Nd) (hl : ns.length ≤ 140737488355328) (hp : Pok ns) : ∃ ks : List Int, ks.length ≤ 2000 ∧ (∀ M, XCalls Go.Proofs.Tryd.prog 12 [trA root ns] M fun r M' => r = .l (.sl (ks.map irow)) ∧ M' = M) ∧
    ∀ M, XCalls Go.Proofs.Tryd.prog 13 [trA root ns] M fun r M' => r = .l (.sl (ks.map irow)) ∧ M' = M := by
  cases hm : mayT root ns with
  | false =>
    refine ⟨[], by simp, fun M => vkeys_bad root ns hl hp hm M, fun M => (rkeys_spec root ns hl hp M).mono ?_⟩
    rintro _ _ ⟨rfl, ⟨_, rfl⟩ | ⟨T, hT, _⟩⟩
    · exact ⟨rfl, rfl⟩
    · rw [hT.may] at hm; cases hm
  | true =>
    obtain ⟨T, hT⟩ := (mayT_iff _ _).1 hm
    have h1 := T.keys_size
    have h2 := hT.all
    have h3 := hT.few
    refine ⟨T.keys, by omega, fun M => vkeys_spec root ns hl hp hT M, fun M => (rkeys_spec root ns hl hp M).mono ?_⟩
    rintro _ _ ⟨rfl, ⟨h, _⟩ | ⟨U, hU, rfl⟩⟩
    · rw [h] at hm; cases hm
    · rw [hT.uniq hU]
      exact ⟨rfl, rfl⟩
theorem deep_both (root : Int) (ns : List Nd) (hl : ns.length ≤ 140737488355328) (hp : Pok ns) : ∃ d : Int, (∀ M, XCalls Go.Proofs.Tryd.prog 17 [trA root ns] M fun r M' => r = .l (.int .i64 d) ∧ M' = M) ∧
    ∀ M, XCalls Go.Proofs.Tryd.prog 18 [trA root ns] M fun r M' => r = .l (.int .i64 d) ∧ M' = M := by
  cases hm : mayT root ns with
  | false =>
    refine ⟨0, fun M => vdeep_bad root ns hl hp hm M, fun M => (rdeep_spec root ns hl hp M).mono ?_⟩
    rintro _ _ ⟨rfl, ⟨_, rfl⟩ | ⟨T, hT, _⟩⟩
    · exact ⟨rfl, rfl⟩
    · rw [hT.may] at hm; cases hm
  | true =>
    obtain ⟨T, hT⟩ := (mayT_iff _ _).1 hm
    refine ⟨T.deep, fun M => vdeep_spec root ns hl hp hT M, fun M => (rdeep_spec root ns hl hp M).mono ?_⟩
    rintro _ _ ⟨rfl, ⟨h, _⟩ | ⟨U, hU, rfl⟩⟩
    · rw [h] at hm; cases hm
    · rw [hT.uniq hU]
      exact ⟨rfl, rfl⟩
theorem text_both (root : Int) (ns : List Nd) (hl : ns.length ≤ 140737488355328) (hp : Pok ns) (hi : ∀ T, Good root ns T → T.ints ∧ T.txt.length ≤ 1000000) : ∃ w : List UInt8, (∀ M, XCalls Go.Proofs.Tryd.prog 15 [trA root ns] M fun r M' => r = .l (txt w) ∧ M' = M) ∧
    ∀ M, XCalls Go.Proofs.Tryd.prog 16 [trA root ns] M fun r M' => r = .l (txt w) ∧ M' = M := by
  cases hm : mayT root ns with
  | false =>
    refine ⟨[], fun M => vtext_bad root ns hl hp hm M, fun M => (rtext_spec root ns hl hp hi M).mono ?_⟩
    rintro _ _ ⟨rfl, ⟨_, rfl⟩ | ⟨T, hT, _⟩⟩
    · exact ⟨rfl, rfl⟩
    · rw [hT.may] at hm; cases hm
  | true =>
    obtain ⟨T, hT⟩ := (mayT_iff _ _).1 hm
    refine ⟨T.txt, fun M => vtext_spec root ns hl hp hT (hi T hT).1 (hi T hT).2 M, fun M => (rtext_spec root ns hl hp hi M).mono ?_⟩
    rintro _ _ ⟨rfl, ⟨h, _⟩ | ⟨U, hU, rfl⟩⟩
    · rw [h] at hm; cases hm
    · rw [hT.uniq hU]
      exact ⟨rfl, rfl⟩
theorem parse_both (s : List UInt8) (hs : s.length ≤ 1000000) : ∃ (ns : List Nd) (e : Int), ns.length ≤ 2000 ∧ Pok ns ∧ (∀ M, XCalls Go.Proofs.Tryd.prog 10 [.l (txt s)] M fun r M' => r = .tup [trA 0 ns, .l (.int .i64 e)] ∧ M' = M) ∧
    ∀ M, XCalls Go.Proofs.Tryd.prog 11 [.l (txt s)] M fun r M' => r = .tup [trA 0 ns, .l (.int .i64 e)] ∧ M' = M := by
  by_cases h : ∃ T, ParsOk s T
  · obtain ⟨T, hT⟩ := h
    refine ⟨preN 0 T, 0, by rw [preN_len]; exact hT.2.2.1, pok_pars hT, fun M => (parse_spec s hs M).mono ?_, fun M => (rparse_spec s hs M).mono ?_⟩
    all_goals
      rintro _ _ ⟨rfl, ⟨U, hU, rfl⟩ | ⟨hno, rfl⟩⟩
      · rw [parsOk_uniq hT hU]
        exact ⟨rfl, rfl⟩
      · exact absurd hT (hno T)
  · refine ⟨[], 1, by simp, (fun x hx => by cases hx), fun M => (parse_spec s hs M).mono ?_, fun M => (rparse_spec s hs M).mono ?_⟩
    all_goals
      rintro _ _ ⟨rfl, ⟨U, hU, rfl⟩ | ⟨hno, rfl⟩⟩
      · exact absurd ⟨U, hU⟩ h
      · exact ⟨rfl, rfl⟩
theorem viewForms_walk (t : Int × List Nd) (s : List UInt8) (ht : TreeOk t) (M : Mem) :
    XCalls Go.Proofs.Tryd.prog 3 [trA t.1 t.2, .l (txt s)] M fun r M' => r = .l (.bool true) ∧ M' = M := by
  obtain ⟨r1, l⟩ := t
  obtain ⟨hl, hl'⟩ := ht
  simp only [big] at hl hl'
  have hp := NdOk.pok hl'
  show XCalls _ _ [trA r1 l, .l (txt s)] _ _
  refine xcalls_intro (rs := [.tmp 4]) Go.Proofs.Tryd.func3 rfl (by kernel_rfl) rfl rfl (by kernel_rfl) (by simp) ?_
  simp -implicitDefEqProofs (maxSteps := 1000000) (disch := omega) only [↓xsP, ↓vc_seq, xsQ, xsT, xsR, xsD, ↓reduceIte, reduceCtorEq, eq_self, ne_eq, imp_self, forall_const, Nat.reduceEqDiff, Nat.reduceAdd, Nat.reduceSub, Nat.reduceMul, Nat.reduceLT, Nat.reduceLeDiff, Nat.reduceBEq, Nat.reduceDiv, Nat.reduceMod, Int.reduceToNat, Int.reduceNeg, Int.reduceAdd, Int.reduceSub, Int.reduceMul, Int.reduceEq, Int.reduceNe, Int.reduceLT, Int.reduceLE, Int.reduceGT, Int.reduceGE, trA]
  refine newI_intro fun id1 hid1 => ?_
  obtain ⟨N, hN⟩ : ∃ N, N = M.set id1 (.cells 24 [[.int .i64 r1, .sl (l.map Nd.row)]] 0) := ⟨_, rfl⟩
  have hMN : M.le N := by rw [hN]; exact le_new (Mem.le_refl _) hid1
  have hN1 : N id1 = some (.cells 24 [[.int .i64 r1, .sl (l.map Nd.row)]] 0) := by rw [hN, Mem.set_eq]
  simp -implicitDefEqProofs (maxSteps := 1000000) (disch := omega) only [↓xsP, xsQ, xsT, xsR, xsD, ↓reduceIte, reduceCtorEq, eq_self, ne_eq, imp_self, forall_const, Nat.reduceEqDiff, Nat.reduceAdd, Nat.reduceSub, Nat.reduceMul, Nat.reduceLT, Nat.reduceLeDiff, Nat.reduceBEq, Nat.reduceDiv, Nat.reduceMod, Int.reduceToNat, Int.reduceNeg, Int.reduceAdd, Int.reduceSub, Int.reduceMul, Int.reduceEq, Int.reduceNe, Int.reduceLT, Int.reduceLE, Int.reduceGT, Int.reduceGE, trA]
  rw [← hN]
  clear hN
  simp -implicitDefEqProofs (maxSteps := 1000000) (disch := omega) only [↓xsP, ↓vc_seq, xsQ, xsT, xsR, xsD, ↓reduceIte, reduceCtorEq, eq_self, ne_eq, imp_self, forall_const, Nat.reduceEqDiff, Nat.reduceAdd, Nat.reduceSub, Nat.reduceMul, Nat.reduceLT, Nat.reduceLeDiff, Nat.reduceBEq, Nat.reduceDiv, Nat.reduceMod, Int.reduceToNat, Int.reduceNeg, Int.reduceAdd, Int.reduceSub, Int.reduceMul, Int.reduceEq, Int.reduceNe, Int.reduceLT, Int.reduceLE, Int.reduceGT, Int.reduceGE, hN1]
  refine call_of (light14_spec r1 l (by omega) hp _) ?_
  by_cases hA : l.length ≤ 450 ∧ psum l ≤ 2000
  rotate_left
  · have e1 : lgt l = 1 := if_neg hA
    simp -implicitDefEqProofs (maxSteps := 1000000) (disch := omega) only [↓xsP, ↓vc_seq, xsQ, xsT, xsR, xsD, ↓reduceIte, reduceCtorEq, eq_self, ne_eq, imp_self, forall_const, Nat.reduceEqDiff, Nat.reduceAdd, Nat.reduceSub, Nat.reduceMul, Nat.reduceLT, Nat.reduceLeDiff, Nat.reduceBEq, Nat.reduceDiv, Nat.reduceMod, Int.reduceToNat, Int.reduceNeg, Int.reduceAdd, Int.reduceSub, Int.reduceMul, Int.reduceEq, Int.reduceNe, Int.reduceLT, Int.reduceLE, Int.reduceGT, Int.reduceGE, hN1, e1]
    refine call_of (awake23_spec _) ?_
    simp -implicitDefEqProofs (maxSteps := 1000000) (disch := omega) only [↓xsP, ↓vc_seq, xsQ, xsT, xsR, xsD, ↓reduceIte, reduceCtorEq, eq_self, ne_eq, imp_self, forall_const, Nat.reduceEqDiff, Nat.reduceAdd, Nat.reduceSub, Nat.reduceMul, Nat.reduceLT, Nat.reduceLeDiff, Nat.reduceBEq, Nat.reduceDiv, Nat.reduceMod, Int.reduceToNat, Int.reduceNeg, Int.reduceAdd, Int.reduceSub, Int.reduceMul, Int.reduceEq, Int.reduceNe, Int.reduceLT, Int.reduceLE, Int.reduceGT, Int.reduceGE]
    exact fin_ok hMN ⟨rfl, rfl⟩
  have e1 : lgt l = 0 := if_pos hA
  by_cases h1 : s.length ≤ 3000
  rotate_left
  · have q1 : decide ((s.length : Int) > 3000) = true := decide_eq_true (by omega)
    simp -implicitDefEqProofs (maxSteps := 1000000) (disch := omega) only [↓xsP, ↓vc_seq, xsQ, xsT, xsR, xsD, ↓reduceIte, reduceCtorEq, eq_self, ne_eq, imp_self, forall_const, Nat.reduceEqDiff, Nat.reduceAdd, Nat.reduceSub, Nat.reduceMul, Nat.reduceLT, Nat.reduceLeDiff, Nat.reduceBEq, Nat.reduceDiv, Nat.reduceMod, Int.reduceToNat, Int.reduceNeg, Int.reduceAdd, Int.reduceSub, Int.reduceMul, Int.reduceEq, Int.reduceNe, Int.reduceLT, Int.reduceLE, Int.reduceGT, Int.reduceGE, hN1, e1, txt, ba_size, q1]
    refine call_of (awake23_spec _) ?_
    simp -implicitDefEqProofs (maxSteps := 1000000) (disch := omega) only [↓xsP, ↓vc_seq, xsQ, xsT, xsR, xsD, ↓reduceIte, reduceCtorEq, eq_self, ne_eq, imp_self, forall_const, Nat.reduceEqDiff, Nat.reduceAdd, Nat.reduceSub, Nat.reduceMul, Nat.reduceLT, Nat.reduceLeDiff, Nat.reduceBEq, Nat.reduceDiv, Nat.reduceMod, Int.reduceToNat, Int.reduceNeg, Int.reduceAdd, Int.reduceSub, Int.reduceMul, Int.reduceEq, Int.reduceNe, Int.reduceLT, Int.reduceLE, Int.reduceGT, Int.reduceGE]
    exact fin_ok hMN ⟨rfl, rfl⟩
  have q1 : decide ((s.length : Int) > 3000) = false := decide_eq_false (by omega)
  simp -implicitDefEqProofs (maxSteps := 1000000) (disch := omega) only [↓xsP, ↓vc_seq, xsQ, xsT, xsR, xsD, ↓reduceIte, reduceCtorEq, eq_self, ne_eq, imp_self, forall_const, Nat.reduceEqDiff, Nat.reduceAdd, Nat.reduceSub, Nat.reduceMul, Nat.reduceLT, Nat.reduceLeDiff, Nat.reduceBEq, Nat.reduceDiv, Nat.reduceMod, Int.reduceToNat, Int.reduceNeg, Int.reduceAdd, Int.reduceSub, Int.reduceMul, Int.reduceEq, Int.reduceNe, Int.reduceLT, Int.reduceLE, Int.reduceGT, Int.reduceGE, hN1, e1, txt, ba_size, q1]
  obtain ⟨ns, e, hns, hPns, hpa, hpb⟩ := parse_both s (by omega)
  obtain ⟨ks, hks, hka, hkb⟩ := keys_both r1 l (by omega) hp
  obtain ⟨d, hda, hdb⟩ := deep_both r1 l (by omega) hp
  obtain ⟨w, hwa, hwb⟩ := text_both r1 l (by omega) hp (fun T hT => by
    have h1 := hT.ints hl'
    have h2 := txt_le h1
    have h3 := hT.np
    have h4 := hT.all
    exact ⟨h1, by omega⟩)
  rw [← txt]
  refine call_of (hpa _) ?_
  simp -implicitDefEqProofs (maxSteps := 1000000) (disch := omega) only [↓xsP, ↓vc_seq, xsQ, xsT, xsR, xsD, ↓reduceIte, reduceCtorEq, eq_self, ne_eq, imp_self, forall_const, Nat.reduceEqDiff, Nat.reduceAdd, Nat.reduceSub, Nat.reduceMul, Nat.reduceLT, Nat.reduceLeDiff, Nat.reduceBEq, Nat.reduceDiv, Nat.reduceMod, Int.reduceToNat, Int.reduceNeg, Int.reduceAdd, Int.reduceSub, Int.reduceMul, Int.reduceEq, Int.reduceNe, Int.reduceLT, Int.reduceLE, Int.reduceGT, Int.reduceGE, hN1, trA]
  refine newI_intro fun id5 hid5 => ?_
  have k15 := lt_of_bnd hid5 hN1
  simp -implicitDefEqProofs (maxSteps := 1000000) (disch := omega) only [↓xsP, ↓vc_seq, xsQ, xsT, xsR, xsD, ↓reduceIte, reduceCtorEq, eq_self, ne_eq, imp_self, forall_const, Nat.reduceEqDiff, Nat.reduceAdd, Nat.reduceSub, Nat.reduceMul, Nat.reduceLT, Nat.reduceLeDiff, Nat.reduceBEq, Nat.reduceDiv, Nat.reduceMod, Int.reduceToNat, Int.reduceNeg, Int.reduceAdd, Int.reduceSub, Int.reduceMul, Int.reduceEq, Int.reduceNe, Int.reduceLT, Int.reduceLE, Int.reduceGT, Int.reduceGE, hN1]
  refine call_of (hpb _) ?_
  simp -implicitDefEqProofs (maxSteps := 1000000) (disch := omega) only [↓xsP, ↓vc_seq, xsQ, xsT, xsR, xsD, ↓reduceIte, reduceCtorEq, eq_self, ne_eq, imp_self, forall_const, Nat.reduceEqDiff, Nat.reduceAdd, Nat.reduceSub, Nat.reduceMul, Nat.reduceLT, Nat.reduceLeDiff, Nat.reduceBEq, Nat.reduceDiv, Nat.reduceMod, Int.reduceToNat, Int.reduceNeg, Int.reduceAdd, Int.reduceSub, Int.reduceMul, Int.reduceEq, Int.reduceNe, Int.reduceLT, Int.reduceLE, Int.reduceGT, Int.reduceGE, hN1, trA]
  refine newI_intro fun id7 hid7 => ?_
  obtain ⟨k57, hid7'⟩ := bnd_new hid7
  simp -implicitDefEqProofs (maxSteps := 1000000) (disch := omega) only [↓xsP, ↓vc_seq, xsQ, xsT, xsR, xsD, ↓reduceIte, reduceCtorEq, eq_self, ne_eq, imp_self, forall_const, Nat.reduceEqDiff, Nat.reduceAdd, Nat.reduceSub, Nat.reduceMul, Nat.reduceLT, Nat.reduceLeDiff, Nat.reduceBEq, Nat.reduceDiv, Nat.reduceMod, Int.reduceToNat, Int.reduceNeg, Int.reduceAdd, Int.reduceSub, Int.reduceMul, Int.reduceEq, Int.reduceNe, Int.reduceLT, Int.reduceLE, Int.reduceGT, Int.reduceGE, hN1]
  obtain ⟨Q, hQ⟩ : ∃ Q, Q = (N.set id5 (.cells 24 [[.int .i64 0, .sl (ns.map Nd.row)]] 0)).set id7 (.cells 24 [[.int .i64 0, .sl (ns.map Nd.row)]] 0) := ⟨_, rfl⟩
  have hMQ : M.le Q := by rw [hQ]; exact le_new (le_new hMN (fun j hj => by
    cases hm : M j with
    | none => rfl
    | some bk => have := hid5 j hj; rw [hMN _ _ hm] at this; cases this)) (fun j hj => by
    cases hm : M j with
    | none => rfl
    | some bk => have := hid7' j hj; rw [hMN _ _ hm] at this; cases this)
  have hQ1 : Q id1 = some (.cells 24 [[.int .i64 r1, .sl (l.map Nd.row)]] 0) := by rw [hQ, Mem.set_ne _ _ _ _ (by omega), Mem.set_ne _ _ _ _ (by omega)]; exact hN1
  have hQ5 : Q id5 = some (.cells 24 [[.int .i64 0, .sl (ns.map Nd.row)]] 0) := by rw [hQ, Mem.set_ne _ _ _ _ (by omega), Mem.set_eq]
  have hQ7 : Q id7 = some (.cells 24 [[.int .i64 0, .sl (ns.map Nd.row)]] 0) := by rw [hQ, Mem.set_eq]
  rw [← hQ]
  clear hQ hid7 hid7' hid5
  refine xquiet (by kernel_rfl) (by kernel_rfl) (by kernel_rfl) ?_
  simp -implicitDefEqProofs (maxSteps := 1000000) (disch := omega) only [↓xsP, ↓vc_seq, xsQ, xsT, xsR, xsD, ↓reduceIte, reduceCtorEq, eq_self, ne_eq, imp_self, forall_const, Nat.reduceEqDiff, Nat.reduceAdd, Nat.reduceSub, Nat.reduceMul, Nat.reduceLT, Nat.reduceLeDiff, Nat.reduceBEq, Nat.reduceDiv, Nat.reduceMod, Int.reduceToNat, Int.reduceNeg, Int.reduceAdd, Int.reduceSub, Int.reduceMul, Int.reduceEq, Int.reduceNe, Int.reduceLT, Int.reduceLE, Int.reduceGT, Int.reduceGE, hQ1]
  refine dcallI_of (hka _) ?_
  simp -implicitDefEqProofs (maxSteps := 1000000) (disch := omega) only [↓xsP, ↓vc_seq, xsQ, xsT, xsR, xsD, ↓reduceIte, reduceCtorEq, eq_self, ne_eq, imp_self, forall_const, Nat.reduceEqDiff, Nat.reduceAdd, Nat.reduceSub, Nat.reduceMul, Nat.reduceLT, Nat.reduceLeDiff, Nat.reduceBEq, Nat.reduceDiv, Nat.reduceMod, Int.reduceToNat, Int.reduceNeg, Int.reduceAdd, Int.reduceSub, Int.reduceMul, Int.reduceEq, Int.reduceNe, Int.reduceLT, Int.reduceLE, Int.reduceGT, Int.reduceGE, hQ1]
  refine dcallI_of (hkb _) ?_
  simp -implicitDefEqProofs (maxSteps := 1000000) (disch := omega) only [↓xsP, ↓vc_seq, xsQ, xsT, xsR, xsD, ↓reduceIte, reduceCtorEq, eq_self, ne_eq, imp_self, forall_const, Nat.reduceEqDiff, Nat.reduceAdd, Nat.reduceSub, Nat.reduceMul, Nat.reduceLT, Nat.reduceLeDiff, Nat.reduceBEq, Nat.reduceDiv, Nat.reduceMod, Int.reduceToNat, Int.reduceNeg, Int.reduceAdd, Int.reduceSub, Int.reduceMul, Int.reduceEq, Int.reduceNe, Int.reduceLT, Int.reduceLE, Int.reduceGT, Int.reduceGE, hQ1]
  refine loopI_of (xloop (by kernel_rfl) (fun k fr N => ∃ j : Nat, j ≤ ks.length ∧ k = ks.length - j ∧ fr 2 = .l (.ptr id1 0 0) ∧ fr 5 = .l (.ptr id5 0 0) ∧ fr 7 = .l (.ptr id7 0 0) ∧ fr 6 = .l (.int .i64 e) ∧ fr 8 = .l (.int .i64 e) ∧ fr 9 = .l (.sl (ks.map irow)) ∧ fr 10 = .l (.sl (ks.map irow)) ∧ fr 41 = .l (.int .i64 ks.length) ∧ fr 42 = .l (.int .i64 j) ∧ N = Q) ks.length ?_ ?_)
  · exact ⟨0, Nat.zero_le _, rfl, by simp -implicitDefEqProofs (maxSteps := 1000000) (disch := omega) only [↓xsP, ↓vc_seq, xsQ, xsT, xsR, xsD, ↓reduceIte, reduceCtorEq, eq_self, ne_eq, imp_self, forall_const, Nat.reduceEqDiff, Nat.reduceAdd, Nat.reduceSub, Nat.reduceMul, Nat.reduceLT, Nat.reduceLeDiff, Nat.reduceBEq, Nat.reduceDiv, Nat.reduceMod, Int.reduceToNat, Int.reduceNeg, Int.reduceAdd, Int.reduceSub, Int.reduceMul, Int.reduceEq, Int.reduceNe, Int.reduceLT, Int.reduceLE, Int.reduceGT, Int.reduceGE], by simp -implicitDefEqProofs (maxSteps := 1000000) (disch := omega) only [↓xsP, ↓vc_seq, xsQ, xsT, xsR, xsD, ↓reduceIte, reduceCtorEq, eq_self, ne_eq, imp_self, forall_const, Nat.reduceEqDiff, Nat.reduceAdd, Nat.reduceSub, Nat.reduceMul, Nat.reduceLT, Nat.reduceLeDiff, Nat.reduceBEq, Nat.reduceDiv, Nat.reduceMod, Int.reduceToNat, Int.reduceNeg, Int.reduceAdd, Int.reduceSub, Int.reduceMul, Int.reduceEq, Int.reduceNe, Int.reduceLT, Int.reduceLE, Int.reduceGT, Int.reduceGE], by simp -implicitDefEqProofs (maxSteps := 1000000) (disch := omega) only [↓xsP, ↓vc_seq, xsQ, xsT, xsR, xsD, ↓reduceIte, reduceCtorEq, eq_self, ne_eq, imp_self, forall_const, Nat.reduceEqDiff, Nat.reduceAdd, Nat.reduceSub, Nat.reduceMul, Nat.reduceLT, Nat.reduceLeDiff, Nat.reduceBEq, Nat.reduceDiv, Nat.reduceMod, Int.reduceToNat, Int.reduceNeg, Int.reduceAdd, Int.reduceSub, Int.reduceMul, Int.reduceEq, Int.reduceNe, Int.reduceLT, Int.reduceLE, Int.reduceGT, Int.reduceGE], by simp -implicitDefEqProofs (maxSteps := 1000000) (disch := omega) only [↓xsP, ↓vc_seq, xsQ, xsT, xsR, xsD, ↓reduceIte, reduceCtorEq, eq_self, ne_eq, imp_self, forall_const, Nat.reduceEqDiff, Nat.reduceAdd, Nat.reduceSub, Nat.reduceMul, Nat.reduceLT, Nat.reduceLeDiff, Nat.reduceBEq, Nat.reduceDiv, Nat.reduceMod, Int.reduceToNat, Int.reduceNeg, Int.reduceAdd, Int.reduceSub, Int.reduceMul, Int.reduceEq, Int.reduceNe, Int.reduceLT, Int.reduceLE, Int.reduceGT, Int.reduceGE], by simp -implicitDefEqProofs (maxSteps := 1000000) (disch := omega) only [↓xsP, ↓vc_seq, xsQ, xsT, xsR, xsD, ↓reduceIte, reduceCtorEq, eq_self, ne_eq, imp_self, forall_const, Nat.reduceEqDiff, Nat.reduceAdd, Nat.reduceSub, Nat.reduceMul, Nat.reduceLT, Nat.reduceLeDiff, Nat.reduceBEq, Nat.reduceDiv, Nat.reduceMod, Int.reduceToNat, Int.reduceNeg, Int.reduceAdd, Int.reduceSub, Int.reduceMul, Int.reduceEq, Int.reduceNe, Int.reduceLT, Int.reduceLE, Int.reduceGT, Int.reduceGE], by simp -implicitDefEqProofs (maxSteps := 1000000) (disch := omega) only [↓xsP, ↓vc_seq, xsQ, xsT, xsR, xsD, ↓reduceIte, reduceCtorEq, eq_self, ne_eq, imp_self, forall_const, Nat.reduceEqDiff, Nat.reduceAdd, Nat.reduceSub, Nat.reduceMul, Nat.reduceLT, Nat.reduceLeDiff, Nat.reduceBEq, Nat.reduceDiv, Nat.reduceMod, Int.reduceToNat, Int.reduceNeg, Int.reduceAdd, Int.reduceSub, Int.reduceMul, Int.reduceEq, Int.reduceNe, Int.reduceLT, Int.reduceLE, Int.reduceGT, Int.reduceGE], by simp -implicitDefEqProofs (maxSteps := 1000000) (disch := omega) only [↓xsP, ↓vc_seq, xsQ, xsT, xsR, xsD, ↓reduceIte, reduceCtorEq, eq_self, ne_eq, imp_self, forall_const, Nat.reduceEqDiff, Nat.reduceAdd, Nat.reduceSub, Nat.reduceMul, Nat.reduceLT, Nat.reduceLeDiff, Nat.reduceBEq, Nat.reduceDiv, Nat.reduceMod, Int.reduceToNat, Int.reduceNeg, Int.reduceAdd, Int.reduceSub, Int.reduceMul, Int.reduceEq, Int.reduceNe, Int.reduceLT, Int.reduceLE, Int.reduceGT, Int.reduceGE], by simp -implicitDefEqProofs (maxSteps := 1000000) (disch := omega) only [↓xsP, ↓vc_seq, xsQ, xsT, xsR, xsD, ↓reduceIte, reduceCtorEq, eq_self, ne_eq, imp_self, forall_const, Nat.reduceEqDiff, Nat.reduceAdd, Nat.reduceSub, Nat.reduceMul, Nat.reduceLT, Nat.reduceLeDiff, Nat.reduceBEq, Nat.reduceDiv, Nat.reduceMod, Int.reduceToNat, Int.reduceNeg, Int.reduceAdd, Int.reduceSub, Int.reduceMul, Int.reduceEq, Int.reduceNe, Int.reduceLT, Int.reduceLE, Int.reduceGT, Int.reduceGE], by simp -implicitDefEqProofs (maxSteps := 1000000) (disch := omega) only [↓xsP, ↓vc_seq, xsQ, xsT, xsR, xsD, ↓reduceIte, reduceCtorEq, eq_self, ne_eq, imp_self, forall_const, Nat.reduceEqDiff, Nat.reduceAdd, Nat.reduceSub, Nat.reduceMul, Nat.reduceLT, Nat.reduceLeDiff, Nat.reduceBEq, Nat.reduceDiv, Nat.reduceMod, Int.reduceToNat, Int.reduceNeg, Int.reduceAdd, Int.reduceSub, Int.reduceMul, Int.reduceEq, Int.reduceNe, Int.reduceLT, Int.reduceLE, Int.reduceGT, Int.reduceGE, Int.cast_ofNat_Int], rfl⟩
  rintro k fr N ⟨j, hj, rfl, f2, f5, f7, f6, f8, f9, f10, f41, f42, rfl⟩
  simp -implicitDefEqProofs (maxSteps := 1000000) (disch := omega) only [↓xsP, ↓vc_seq, xsQ, xsT, xsR, xsD, ↓reduceIte, reduceCtorEq, eq_self, ne_eq, imp_self, forall_const, Nat.reduceEqDiff, Nat.reduceAdd, Nat.reduceSub, Nat.reduceMul, Nat.reduceLT, Nat.reduceLeDiff, Nat.reduceBEq, Nat.reduceDiv, Nat.reduceMod, Int.reduceToNat, Int.reduceNeg, Int.reduceAdd, Int.reduceSub, Int.reduceMul, Int.reduceEq, Int.reduceNe, Int.reduceLT, Int.reduceLE, Int.reduceGT, Int.reduceGE, f2, f5, f7, f6, f8, f9, f10, f41, f42]
  refine condI_prop (fun hlt => ?_) (fun hlt => ?_)
  · have hjl : j < ks.length := by omega
    simp -implicitDefEqProofs (maxSteps := 1000000) (disch := omega) only [↓xsP, ↓vc_seq, xsQ, xsT, xsR, xsD, ↓reduceIte, reduceCtorEq, eq_self, ne_eq, imp_self, forall_const, Nat.reduceEqDiff, Nat.reduceAdd, Nat.reduceSub, Nat.reduceMul, Nat.reduceLT, Nat.reduceLeDiff, Nat.reduceBEq, Nat.reduceDiv, Nat.reduceMod, Int.reduceToNat, Int.reduceNeg, Int.reduceAdd, Int.reduceSub, Int.reduceMul, Int.reduceEq, Int.reduceNe, Int.reduceLT, Int.reduceLE, Int.reduceGT, Int.reduceGE, f2, f5, f7, f6, f8, f9, f10, f41, f42]
    refine xquiet (by kernel_rfl) (by kernel_rfl) (by kernel_rfl) ?_
    simp -implicitDefEqProofs (maxSteps := 1000000) (disch := omega) only [↓xsP, ↓vc_seq, xsQ, xsT, xsR, xsD, ↓reduceIte, reduceCtorEq, eq_self, ne_eq, imp_self, forall_const, Nat.reduceEqDiff, Nat.reduceAdd, Nat.reduceSub, Nat.reduceMul, Nat.reduceLT, Nat.reduceLeDiff, Nat.reduceBEq, Nat.reduceDiv, Nat.reduceMod, Int.reduceToNat, Int.reduceNeg, Int.reduceAdd, Int.reduceSub, Int.reduceMul, Int.reduceEq, Int.reduceNe, Int.reduceLT, Int.reduceLE, Int.reduceGT, Int.reduceGE, f2, f5, f7, f6, f8, f9, f10, f41, f42]
    exact ⟨ks.length - (j + 1), N, by omega, Mem.le_refl _, j + 1, by omega, rfl, by simp, rfl⟩
  · simp -implicitDefEqProofs (maxSteps := 1000000) (disch := omega) only [↓xsP, ↓vc_seq, xsQ, xsT, xsR, xsD, ↓reduceIte, reduceCtorEq, eq_self, ne_eq, imp_self, forall_const, Nat.reduceEqDiff, Nat.reduceAdd, Nat.reduceSub, Nat.reduceMul, Nat.reduceLT, Nat.reduceLeDiff, Nat.reduceBEq, Nat.reduceDiv, Nat.reduceMod, Int.reduceToNat, Int.reduceNeg, Int.reduceAdd, Int.reduceSub, Int.reduceMul, Int.reduceEq, Int.reduceNe, Int.reduceLT, Int.reduceLE, Int.reduceGT, Int.reduceGE, f2, f5, f7, f6, f8, f9, f10, f41, f42]
    refine xquiet (by kernel_rfl) (by kernel_rfl) (by kernel_rfl) ?_
    simp -implicitDefEqProofs (maxSteps := 1000000) (disch := omega) only [↓xsP, ↓vc_seq, xsQ, xsT, xsR, xsD, ↓reduceIte, reduceCtorEq, eq_self, ne_eq, imp_self, forall_const, Nat.reduceEqDiff, Nat.reduceAdd, Nat.reduceSub, Nat.reduceMul, Nat.reduceLT, Nat.reduceLeDiff, Nat.reduceBEq, Nat.reduceDiv, Nat.reduceMod, Int.reduceToNat, Int.reduceNeg, Int.reduceAdd, Int.reduceSub, Int.reduceMul, Int.reduceEq, Int.reduceNe, Int.reduceLT, Int.reduceLE, Int.reduceGT, Int.reduceGE, f2, f5, f7, f6, f8, f9, f10, f41, f42, hQ1, hQ5, hQ7]
    refine dcallI_of (sraw_spec 0 0 ns ns (by omega) hPns _) ?_
    rw [bof_true ⟨rfl, rfl⟩]
    simp -implicitDefEqProofs (maxSteps := 1000000) (disch := omega) only [↓xsP, ↓vc_seq, xsQ, xsT, xsR, xsD, ↓reduceIte, reduceCtorEq, eq_self, ne_eq, imp_self, forall_const, Nat.reduceEqDiff, Nat.reduceAdd, Nat.reduceSub, Nat.reduceMul, Nat.reduceLT, Nat.reduceLeDiff, Nat.reduceBEq, Nat.reduceDiv, Nat.reduceMod, Int.reduceToNat, Int.reduceNeg, Int.reduceAdd, Int.reduceSub, Int.reduceMul, Int.reduceEq, Int.reduceNe, Int.reduceLT, Int.reduceLE, Int.reduceGT, Int.reduceGE, f2, f5, f7, f6, f8, f9, f10, f41, f42, hQ1, hQ5, hQ7]
    refine dcallI_of (hwa _) ?_
    simp -implicitDefEqProofs (maxSteps := 1000000) (disch := omega) only [↓xsP, ↓vc_seq, xsQ, xsT, xsR, xsD, ↓reduceIte, reduceCtorEq, eq_self, ne_eq, imp_self, forall_const, Nat.reduceEqDiff, Nat.reduceAdd, Nat.reduceSub, Nat.reduceMul, Nat.reduceLT, Nat.reduceLeDiff, Nat.reduceBEq, Nat.reduceDiv, Nat.reduceMod, Int.reduceToNat, Int.reduceNeg, Int.reduceAdd, Int.reduceSub, Int.reduceMul, Int.reduceEq, Int.reduceNe, Int.reduceLT, Int.reduceLE, Int.reduceGT, Int.reduceGE, f2, f5, f7, f6, f8, f9, f10, f41, f42, hQ1, hQ5, hQ7]
    refine dcallI_of (hwb _) ?_
    have w1 : decide ((⟨w.toArray⟩ : ByteArray) = ⟨w.toArray⟩) = true := decide_eq_true rfl
    simp -implicitDefEqProofs (maxSteps := 1000000) (disch := omega) only [↓xsP, ↓vc_seq, xsQ, xsT, xsR, xsD, ↓reduceIte, reduceCtorEq, eq_self, ne_eq, imp_self, forall_const, Nat.reduceEqDiff, Nat.reduceAdd, Nat.reduceSub, Nat.reduceMul, Nat.reduceLT, Nat.reduceLeDiff, Nat.reduceBEq, Nat.reduceDiv, Nat.reduceMod, Int.reduceToNat, Int.reduceNeg, Int.reduceAdd, Int.reduceSub, Int.reduceMul, Int.reduceEq, Int.reduceNe, Int.reduceLT, Int.reduceLE, Int.reduceGT, Int.reduceGE, f2, f5, f7, f6, f8, f9, f10, f41, f42, hQ1, hQ5, hQ7, txt, w1]
    refine dcallI_of (hda _) ?_
    simp -implicitDefEqProofs (maxSteps := 1000000) (disch := omega) only [↓xsP, ↓vc_seq, xsQ, xsT, xsR, xsD, ↓reduceIte, reduceCtorEq, eq_self, ne_eq, imp_self, forall_const, Nat.reduceEqDiff, Nat.reduceAdd, Nat.reduceSub, Nat.reduceMul, Nat.reduceLT, Nat.reduceLeDiff, Nat.reduceBEq, Nat.reduceDiv, Nat.reduceMod, Int.reduceToNat, Int.reduceNeg, Int.reduceAdd, Int.reduceSub, Int.reduceMul, Int.reduceEq, Int.reduceNe, Int.reduceLT, Int.reduceLE, Int.reduceGT, Int.reduceGE, f2, f5, f7, f6, f8, f9, f10, f41, f42, hQ1, hQ5, hQ7]
    refine dcallI_of (hdb _) ?_
    simp -implicitDefEqProofs (maxSteps := 1000000) (disch := omega) only [↓xsP, ↓vc_seq, xsQ, xsT, xsR, xsD, ↓reduceIte, reduceCtorEq, eq_self, ne_eq, imp_self, forall_const, Nat.reduceEqDiff, Nat.reduceAdd, Nat.reduceSub, Nat.reduceMul, Nat.reduceLT, Nat.reduceLeDiff, Nat.reduceBEq, Nat.reduceDiv, Nat.reduceMod, Int.reduceToNat, Int.reduceNeg, Int.reduceAdd, Int.reduceSub, Int.reduceMul, Int.reduceEq, Int.reduceNe, Int.reduceLT, Int.reduceLE, Int.reduceGT, Int.reduceGE, f2, f5, f7, f6, f8, f9, f10, f41, f42, hQ1, hQ5, hQ7]
    refine dcallI_of (awake23_spec _) ?_
    simp -implicitDefEqProofs (maxSteps := 1000000) (disch := omega) only [↓xsP, ↓vc_seq, xsQ, xsT, xsR, xsD, ↓reduceIte, reduceCtorEq, eq_self, ne_eq, imp_self, forall_const, Nat.reduceEqDiff, Nat.reduceAdd, Nat.reduceSub, Nat.reduceMul, Nat.reduceLT, Nat.reduceLeDiff, Nat.reduceBEq, Nat.reduceDiv, Nat.reduceMod, Int.reduceToNat, Int.reduceNeg, Int.reduceAdd, Int.reduceSub, Int.reduceMul, Int.reduceEq, Int.reduceNe, Int.reduceLT, Int.reduceLE, Int.reduceGT, Int.reduceGE, f2, f5, f7, f6, f8, f9, f10, f41, f42, hQ1, hQ5, hQ7]
    exact fin_ok hMQ ⟨rfl, rfl⟩
end Go.X
