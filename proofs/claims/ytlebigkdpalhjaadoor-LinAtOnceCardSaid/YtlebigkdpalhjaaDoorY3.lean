/- Texts joined: Of Yd Yc Yf Za Zb Yg Zc Oa Va Vb Vc Vd Ve Vf Ta Tb Tc Td Te Ma Tf. -/
import Derived.Test.YtlebigkdpalhjaaDoorY2
set_option linter.unusedVariables false
set_option linter.unusedSimpArgs false
set_option maxRecDepth 100000
namespace Go.X

/-- What a leaf reads as: a slice of these rows that never changes. -/
def Rd (M : Mem) (x : Lf) (r : List (List Lf)) : Prop :=
  x = .sl r ∨ (r = [] ∧ x = .nils) ∨ ∃ id off n T rows keep, M id = some (.cells T rows keep) ∧ rows.length ≤ keep ∧ off + n ≤ rows.length ∧ r = (rows.drop off).take n ∧ x = .ms id off n
theorem Rd.sl (M : Mem) (r : List (List Lf)) : Rd M (.sl r) r := .inl rfl
theorem Rd.nils (M : Mem) : Rd M .nils [] := .inr (.inl ⟨rfl, rfl⟩)
theorem Rd.ms {M : Mem} {id T keep n : Nat} {rows : List (List Lf)} (h : M id = some (.cells T rows keep)) (hk : rows.length ≤ keep) (hn : n = rows.length) : Rd M (.ms id 0 n) rows :=
  .inr (.inr ⟨id, 0, n, T, rows, keep, h, hk, by omega, by rw [List.drop_zero, List.take_of_length_le (by omega)], rfl⟩)
theorem Rd.le {M N : Mem} {x : Lf} {r : List (List Lf)} (h : Rd M x r) (hle : M.le N) : Rd N x r := by
  rcases h with h | h | ⟨id, off, n, T, rows, keep, h1, h2, h3, h4, h5⟩
  · exact .inl h
  · exact .inr (.inl h)
  · exact .inr (.inr ⟨id, off, n, T, rows, keep, hle _ _ h1, h2, h3, h4, h5⟩)
theorem Rd.frz {M : Mem} {x : Lf} {r : List (List Lf)} (h : Rd M x r) {id T keep : Nat} {rows : List (List Lf)} (hM : M id = some (.cells T rows keep)) : Rd M (frzL id rows x) r := by
  rcases h with rfl | ⟨rfl, rfl⟩ | ⟨id', off, n, T', rows', keep', h1, h2, h3, rfl, rfl⟩
  · exact .inl rfl
  · exact .inr (.inl ⟨rfl, rfl⟩)
  · simp only [frzL]
    split
    · rename_i e
      obtain ⟨rfl, -⟩ := e
      rw [hM] at h1
      cases h1
      exact .inl rfl
    · exact .inr (.inr ⟨id', off, n, T', rows', keep', h1, h2, h3, rfl, rfl⟩)
theorem Rd.wk {M : Mem} {x : Lf} {r : List (List Lf)} (h : Rd M x r) : Rd M (wkL x) r := by
  rcases h with rfl | ⟨rfl, rfl⟩ | ⟨id', off, n, T', rows', keep', h1, h2, h3, rfl, rfl⟩
  · exact .inl rfl
  · exact .inl rfl
  · exact .inr (.inr ⟨id', off, n, T', rows', keep', h1, h2, h3, rfl, rfl⟩)
/-- A value that neither a freeze nor a weakening changes. -/
def Fast (a : AV) : Prop := wkA a = a ∧ ∀ id rows, frzA id rows a = a
theorem Fast.int (k : IntKind) (n : Int) : Fast (.l (.int k n)) := ⟨rfl, fun _ _ => rfl⟩
theorem Fast.bool (b : Bool) : Fast (.l (.bool b)) := ⟨rfl, fun _ _ => rfl⟩
theorem Fast.sl (r : List (List Lf)) : Fast (.l (.sl r)) := ⟨rfl, fun _ _ => rfl⟩
theorem Fast.ptr (i r c : Nat) : Fast (.l (.ptr i r c)) := ⟨rfl, fun _ _ => rfl⟩
theorem Fast.opn (o : Opn) : Fast (.agg o.row) := ⟨by simp [Opn.row, wkA, wkL], fun _ _ => by simp [Opn.row, frzA, frz1, frzL]⟩
theorem Fast.ans (o : Ans) : Fast (.agg o.row) := ⟨by simp [Ans.row, wkA, wkL], fun _ _ => by simp [Ans.row, frzA, frz1, frzL]⟩
def RdA (M : Mem) (a b : AV) : Prop := (a = b ∧ Fast b) ∨ ∃ x r, a = .l x ∧ b = .l (.sl r) ∧ Rd M x r
inductive RdAs (M : Mem) : List AV → List AV → Prop
  | nil : RdAs M [] []
  | cons {a b : AV} {l m : List AV} : RdA M a b → RdAs M l m → RdAs M (a :: l) (b :: m)
theorem RdA.frz {M : Mem} {a b : AV} (h : RdA M a b) {id T keep : Nat} {rows : List (List Lf)} (hM : M id = some (.cells T rows keep)) : RdA M (frzA id rows a) b := by
  rcases h with ⟨rfl, hf⟩ | ⟨x, r, rfl, rfl, h⟩
  · exact .inl ⟨hf.2 _ _, hf⟩
  · exact .inr ⟨_, r, rfl, rfl, h.frz hM⟩
theorem RdA.wk {M : Mem} {a b : AV} (h : RdA M a b) : RdA M (wkA a) b := by
  rcases h with ⟨rfl, hf⟩ | ⟨x, r, rfl, rfl, h⟩
  · exact .inl ⟨hf.1, hf⟩
  · exact .inr ⟨_, r, rfl, rfl, h.wk⟩
theorem RdAs.frz {M : Mem} {id T keep : Nat} {rows : List (List Lf)} (hM : M id = some (.cells T rows keep)) : ∀ {l m : List AV}, RdAs M l m → RdAs M (l.map (frzA id rows)) m
  | _, _, .nil => .nil
  | _, _, .cons h t => .cons (h.frz hM) (t.frz hM)
theorem RdAs.wk {M : Mem} : ∀ {l m : List AV}, RdAs M l m → RdAs M (l.map wkA) m
  | _, _, .nil => .nil
  | _, _, .cons h t => .cons h.wk t.wk
theorem XCalls.rds {P : Program} {f : FuncId} {M : Mem} {K : AV → Mem → Prop} : ∀ {m l done : List AV}, RdAs M l m → (∀ a ∈ done, Fast a) → XCalls P f (done ++ m) M K → XCalls P f (done ++ l) M K
  | [], l, done, h, hd, hx => by cases h; exact hx
  | b :: m, _, done, .cons (a := a) (l := l) h t, hd, hx => by
    have fin : ∀ {l' : List AV}, Fast b → RdAs M l' m → XCalls P f (done ++ b :: l') M K := fun {l'} hb ht => by
      have := XCalls.rds (done := done ++ [b]) ht (fun a ha => by rcases List.mem_append.1 ha with ha | ha; exact hd _ ha; rw [List.mem_singleton.1 ha]; exact hb) (by rw [List.append_assoc]; exact hx)
      rwa [List.append_assoc] at this
    have hdw : done.map wkA = done := by
      conv => rhs; rw [← List.map_id done]
      exact List.map_congr_left fun a ha => (hd a ha).1
    have hdf : ∀ id rows, done.map (frzA id rows) = done := fun id rows => by
      conv => rhs; rw [← List.map_id done]
      exact List.map_congr_left fun a ha => (hd a ha).2 id rows
    rcases h with ⟨rfl, hf⟩ | ⟨x, r, rfl, rfl, rfl | ⟨rfl, rfl⟩ | ⟨id, off, n, T, rows, keep, h1, h2, h3, rfl, rfl⟩⟩
    · exact fin hf t
    · exact fin (Fast.sl _) t
    · refine XCalls.wk ?_
      rw [List.map_append, hdw]
      exact fin (Fast.sl _) t.wk
    · refine XCalls.frz0 id h1 h2 ?_
      rw [List.map_append, hdf]
      have e : frzA id rows (.l (.ms id off n)) = .l (.sl ((rows.drop off).take n)) := by simp [frzA, frz1, frzL, h3]
      rw [List.map_cons, e]
      exact fin (Fast.sl _) (t.frz h1)
theorem XCalls.rd {P : Program} {f : FuncId} {M : Mem} {K : AV → Mem → Prop} {m l : List AV} (h : RdAs M l m) (hx : XCalls P f m M K) : XCalls P f l M K :=
  XCalls.rds (done := []) h (by simp) hx
end Go.X
set_option linter.unusedVariables false
set_option linter.unusedSimpArgs false
set_option maxRecDepth 100000
namespace Go.X

theorem le_end {M B : Mem} {idm idA : Nat} {Z X : Blk} (hne : idm ≠ idA) (hA : B idA = some X) (hm : B idm = some Z) (hold : ∀ j b, M j = some b → B j = some b) : ((M.set idm Z).set idA X).le B := fun j b hj => by
  simp only [Mem.set_app] at hj
  by_cases e : idA = j
  · subst e; rw [if_pos rfl] at hj; rw [hA]; exact hj
  · rw [if_neg e] at hj
    by_cases e2 : idm = j
    · subst e2; rw [if_pos rfl] at hj; rw [hm]; exact hj
    · rw [if_neg e2] at hj
      exact hold _ _ hj
theorem step_end {M B : Mem} {idm idA : Nat} {Z : Blk} {T : TypeId} {rows rows' : List (List Lf)} (hM : ∀ j, idm ≤ j → M j = none) (hlt : idm < idA) (hA : B idA = some (.cells T rows 0)) (hm : B idm = some Z) (hold : ∀ j b, j < idm → M j = some b → B j = some b)
    (hr : rows.map (fun r => r.map wkL) = rows') : GStep B ((M.set idm Z).set idA (.cells T rows' 0)) := by
  subst hr
  refine GStep.trans (GStep.wk hA) (GStep.le (le_end (by omega) (Mem.set_eq _ _ _) ?_ fun j b hj => ?_))
  · rw [Mem.set_ne _ _ _ _ (by omega)]; exact hm
  · have hj' := lt_of_bnd hM hj
    rw [Mem.set_ne _ _ _ _ (by omega)]
    exact hold j b hj' hj
theorem step_end_frz {M B : Mem} {idm idA idP : Nat} {Z : Blk} {T Tp kp : TypeId} {rows rows' prow : List (List Lf)} (hM : ∀ j, idm ≤ j → M j = none) (hlt : idm < idA) (hltP : idm < idP) (hne : idP ≠ idA) (hA : B idA = some (.cells T rows 0)) (hP : B idP = some (.cells Tp prow kp)) (hm : B idm = some Z)
    (hold : ∀ j b, j < idm → M j = some b → B j = some b)
    (hr : rows.map (fun r => r.map (frzL idP prow)) = rows') : GStep B ((M.set idm Z).set idA (.cells T rows' 0)) := by
  subst hr
  refine GStep.trans (GStep.frz_in hP hA hne) (GStep.le (le_end (by omega) (Mem.set_eq _ _ _) ?_ fun j b hj => ?_))
  · rw [Mem.set_ne _ _ _ _ (by omega), Mem.set_ne _ _ _ _ (by omega)]; exact hm
  · have hj' := lt_of_bnd hM hj
    rw [Mem.set_ne _ _ _ _ (by omega), Mem.set_ne _ _ _ _ (by omega)]
    exact hold j b hj' hj
theorem cl_wk (c : Cl) : c.row.map wkL = c.row := by simp [Cl.row, wkL]
theorem cl_frz (id : Nat) (rows : List (List Lf)) (c : Cl) : c.row.map (frzL id rows) = c.row := by simp [Cl.row, frzL]
theorem cls_wk (l : List Cl) : (l.map Cl.row).map (fun r => r.map wkL) = l.map Cl.row := by simp only [List.map_map]; exact List.map_congr_left fun c _ => cl_wk c
theorem cls_frz (id : Nat) (rows : List (List Lf)) (l : List Cl) : (l.map Cl.row).map (fun r => r.map (frzL id rows)) = l.map Cl.row := by simp only [List.map_map]; exact List.map_congr_left fun c _ => cl_frz id rows c
/-- The row of a call that has not returned. -/
def openRow (x : Evt) (i : Nat) : List Lf := [.int .i64 x.who, .int .i64 i, .int .i64 (-1), .int .i64 x.op.kind, .int .i64 x.op.key, .int .i64 x.op.to, .int .i64 x.op.val, .int .i64 0, .bool false, .int .i64 0, .int .i64 0, .int .i64 0, .nils]
theorem opn_eq (a b : Opn) : a = b ↔ a.kind = b.kind ∧ a.key = b.key ∧ a.to = b.to ∧ a.val = b.val := by cases a; cases b; simp
theorem open_wk (x : Evt) (i : Nat) : (openRow x i).map wkL = Cl.row ⟨x.who, i, -1, x.op, ans0⟩ := by simp [openRow, wkL, Cl.row, ans0]
/-- The row of a call that returns. -/
def retRow (c : Cl) (i : Nat) (a : Ans) (l : Lf) : List Lf := [.int .i64 c.who, .int .i64 c.beg, .int .i64 i, .int .i64 c.op.kind, .int .i64 c.op.key, .int .i64 c.op.to, .int .i64 c.op.val, .int .i64 a.err, .bool a.ok, .int .i64 a.pair.key, .int .i64 a.pair.val, .int .i64 a.n, l]
theorem set_wk (l : List Cl) (k i : Nat) (c : Cl) (a : Ans) (ha : a.pairs = []) : ((l.map Cl.row).set k (retRow c i a .nils)).map (fun r => r.map wkL) = (l.set k { c with fin := i, ans := a }).map Cl.row := by
  rw [List.map_set, cls_wk, List.map_set]
  simp [retRow, wkL, Cl.row, ha]
theorem set_frz (id : Nat) (l : List Cl) (k i : Nat) (c : Cl) (a : Ans) : ((l.map Cl.row).set k (retRow c i a (.ms id 0 a.pairs.length))).map (fun r => r.map (frzL id (a.pairs.map Pr.row))) = (l.set k { c with fin := i, ans := a }).map Cl.row := by
  rw [List.map_set, cls_frz, List.map_set]
  simp [retRow, frzL, Cl.row, List.take_of_length_le]
end Go.X
set_option linter.unusedVariables false
set_option linter.unusedSimpArgs false
set_option maxHeartbeats 20000000
set_option maxRecDepth 100000
namespace Go.X
open Go.Proofs.Tryd (prog)

theorem ii48 : IIMap Go.Proofs.Tryd.prog 95 := ⟨_, _, _, _, _, ti_95, rfl, ti_3, rfl, ti_3, rfl⟩

theorem read_spec (h : List Evt) (hs : Small h) (M : Mem) : XCalls Go.Proofs.Tryd.prog 32 [.l (.sl (h.map Evt.row))] M fun r M' => r = readV h ∧ M' = M := by
  refine xcalls_intro (rs := [.tmp 2, .tmp 3]) Go.Proofs.Tryd.func32 rfl (by kernel_rfl) rfl rfl (by kernel_rfl) (by simp) ?_
  simp -implicitDefEqProofs (maxSteps := 1000000) (disch := omega) only [↓xsP, ↓vc_seq, xsQ, xsT, xsR, xsD, ↓reduceIte, reduceCtorEq, eq_self, ne_eq, imp_self, forall_const, Nat.reduceEqDiff, Nat.reduceAdd, Nat.reduceSub, Nat.reduceMul, Nat.reduceLT, Nat.reduceLeDiff, Nat.reduceBEq, Nat.reduceDiv, Nat.reduceMod, Int.reduceToNat, Int.reduceNeg, Int.reduceAdd, Int.reduceSub, Int.reduceMul, Int.reduceEq, Int.reduceNe, Int.reduceLT, Int.reduceLE, Int.reduceGT, Int.reduceGE]
  refine newI_intro fun idm hidm => ?_
  simp -implicitDefEqProofs (maxSteps := 1000000) (disch := omega) only [↓xsP, ↓vc_seq, xsQ, xsT, xsR, xsD, ↓reduceIte, reduceCtorEq, eq_self, ne_eq, imp_self, forall_const, Nat.reduceEqDiff, Nat.reduceAdd, Nat.reduceSub, Nat.reduceMul, Nat.reduceLT, Nat.reduceLeDiff, Nat.reduceBEq, Nat.reduceDiv, Nat.reduceMod, Int.reduceToNat, Int.reduceNeg, Int.reduceAdd, Int.reduceSub, Int.reduceMul, Int.reduceEq, Int.reduceNe, Int.reduceLT, Int.reduceLE, Int.reduceGT, Int.reduceGE]
  refine xloopG (by kernel_rfl) (fun k fr M' => ∃ (i : Nat) (out : List Cl) (ms : List (Int × Int)), i ≤ h.length ∧ k = h.length - i ∧ fr 5 = .l (.mp idm) ∧ fr 10 = .l (.sl (h.map Evt.row)) ∧ fr 11 = .l (.int .i64 h.length) ∧ fr 12 = .l (.int .i64 i) ∧
    rrun h 0 ([], []) = rrun (h.drop i) i (out, ms) ∧ INod ms ∧ out.length ≤ i ∧ (∀ k v, iget ms k = some v → 1 ≤ v ∧ v ≤ out.length) ∧
    ((out = [] ∧ fr 4 = .l .nils ∧ M' = M.set idm (.map (ms.map ient))) ∨ ∃ idO, idm < idO ∧ fr 4 = .l (.ms idO 0 out.length) ∧ M' = (M.set idm (.map (ms.map ient))).set idO (.cells 77 (out.map Cl.row) 0))) h.length ?_ ?_
  · refine ⟨0, [], [], Nat.zero_le _, rfl, by simp -implicitDefEqProofs (maxSteps := 1000000) (disch := omega) only [↓xsP, ↓vc_seq, xsQ, xsT, xsR, xsD, ↓reduceIte, reduceCtorEq, eq_self, ne_eq, imp_self, forall_const, Nat.reduceEqDiff, Nat.reduceAdd, Nat.reduceSub, Nat.reduceMul, Nat.reduceLT, Nat.reduceLeDiff, Nat.reduceBEq, Nat.reduceDiv, Nat.reduceMod, Int.reduceToNat, Int.reduceNeg, Int.reduceAdd, Int.reduceSub, Int.reduceMul, Int.reduceEq, Int.reduceNe, Int.reduceLT, Int.reduceLE, Int.reduceGT, Int.reduceGE], by simp -implicitDefEqProofs (maxSteps := 1000000) (disch := omega) only [↓xsP, ↓vc_seq, xsQ, xsT, xsR, xsD, ↓reduceIte, reduceCtorEq, eq_self, ne_eq, imp_self, forall_const, Nat.reduceEqDiff, Nat.reduceAdd, Nat.reduceSub, Nat.reduceMul, Nat.reduceLT, Nat.reduceLeDiff, Nat.reduceBEq, Nat.reduceDiv, Nat.reduceMod, Int.reduceToNat, Int.reduceNeg, Int.reduceAdd, Int.reduceSub, Int.reduceMul, Int.reduceEq, Int.reduceNe, Int.reduceLT, Int.reduceLE, Int.reduceGT, Int.reduceGE], by simp -implicitDefEqProofs (maxSteps := 1000000) (disch := omega) only [↓xsP, ↓vc_seq, xsQ, xsT, xsR, xsD, ↓reduceIte, reduceCtorEq, eq_self, ne_eq, imp_self, forall_const, Nat.reduceEqDiff, Nat.reduceAdd, Nat.reduceSub, Nat.reduceMul, Nat.reduceLT, Nat.reduceLeDiff, Nat.reduceBEq, Nat.reduceDiv, Nat.reduceMod, Int.reduceToNat, Int.reduceNeg, Int.reduceAdd, Int.reduceSub, Int.reduceMul, Int.reduceEq, Int.reduceNe, Int.reduceLT, Int.reduceLE, Int.reduceGT, Int.reduceGE], by simp -implicitDefEqProofs (maxSteps := 1000000) (disch := omega) only [↓xsP, ↓vc_seq, xsQ, xsT, xsR, xsD, ↓reduceIte, reduceCtorEq, eq_self, ne_eq, imp_self, forall_const, Nat.reduceEqDiff, Nat.reduceAdd, Nat.reduceSub, Nat.reduceMul, Nat.reduceLT, Nat.reduceLeDiff, Nat.reduceBEq, Nat.reduceDiv, Nat.reduceMod, Int.reduceToNat, Int.reduceNeg, Int.reduceAdd, Int.reduceSub, Int.reduceMul, Int.reduceEq, Int.reduceNe, Int.reduceLT, Int.reduceLE, Int.reduceGT, Int.reduceGE, Int.cast_ofNat_Int], rfl, by simp [INod], Nat.le_refl _, fun k v h => by simp [iget] at h, .inl ⟨rfl, by simp -implicitDefEqProofs (maxSteps := 1000000) (disch := omega) only [↓xsP, ↓vc_seq, xsQ, xsT, xsR, xsD, ↓reduceIte, reduceCtorEq, eq_self, ne_eq, imp_self, forall_const, Nat.reduceEqDiff, Nat.reduceAdd, Nat.reduceSub, Nat.reduceMul, Nat.reduceLT, Nat.reduceLeDiff, Nat.reduceBEq, Nat.reduceDiv, Nat.reduceMod, Int.reduceToNat, Int.reduceNeg, Int.reduceAdd, Int.reduceSub, Int.reduceMul, Int.reduceEq, Int.reduceNe, Int.reduceLT, Int.reduceLE, Int.reduceGT, Int.reduceGE], ?_⟩⟩
    rfl
  · rintro k fr M' ⟨i, out, ms, hi, rfl, h5, h10, h11, h12, hrun, hnod, hlen, hget, hmem⟩
    simp -implicitDefEqProofs (maxSteps := 1000000) (disch := omega) only [↓xsP, ↓vc_seq, xsQ, xsT, xsR, xsD, ↓reduceIte, reduceCtorEq, eq_self, ne_eq, imp_self, forall_const, Nat.reduceEqDiff, Nat.reduceAdd, Nat.reduceSub, Nat.reduceMul, Nat.reduceLT, Nat.reduceLeDiff, Nat.reduceBEq, Nat.reduceDiv, Nat.reduceMod, Int.reduceToNat, Int.reduceNeg, Int.reduceAdd, Int.reduceSub, Int.reduceMul, Int.reduceEq, Int.reduceNe, Int.reduceLT, Int.reduceLE, Int.reduceGT, Int.reduceGE, h10, h11, h12]
    refine condI_prop (fun hlt => ?_) (fun hlt => ?_)
    · simp -implicitDefEqProofs (maxSteps := 1000000) (disch := omega) only [↓xsP, ↓vc_seq, xsQ, xsT, xsR, xsD, ↓reduceIte, reduceCtorEq, eq_self, ne_eq, imp_self, forall_const, Nat.reduceEqDiff, Nat.reduceAdd, Nat.reduceSub, Nat.reduceMul, Nat.reduceLT, Nat.reduceLeDiff, Nat.reduceBEq, Nat.reduceDiv, Nat.reduceMod, Int.reduceToNat, Int.reduceNeg, Int.reduceAdd, Int.reduceSub, Int.reduceMul, Int.reduceEq, Int.reduceNe, Int.reduceLT, Int.reduceLE, Int.reduceGT, Int.reduceGE, h10, h11, h12]
      refine newI_intro fun id7 hid7 => ?_
      simp -implicitDefEqProofs (maxSteps := 1000000) (disch := omega) only [↓xsP, ↓vc_seq, xsQ, xsT, xsR, xsD, ↓reduceIte, reduceCtorEq, eq_self, ne_eq, imp_self, forall_const, Nat.reduceEqDiff, Nat.reduceAdd, Nat.reduceSub, Nat.reduceMul, Nat.reduceLT, Nat.reduceLeDiff, Nat.reduceBEq, Nat.reduceDiv, Nat.reduceMod, Int.reduceToNat, Int.reduceNeg, Int.reduceAdd, Int.reduceSub, Int.reduceMul, Int.reduceEq, Int.reduceNe, Int.reduceLT, Int.reduceLE, Int.reduceGT, Int.reduceGE, h10, h11, h12]
      have hxm : h.getD i default ∈ h := by
        have : i < h.length := by omega
        simp [List.getD_eq_getElem?_getD, List.getElem?_eq_getElem this]
      have hdrop : h.drop i = h.getD i default :: h.drop (i + 1) := by
        have hi' : i < h.length := by omega
        rw [List.drop_eq_getElem_cons hi', List.getD_eq_getElem?_getD, List.getElem?_eq_getElem hi', Option.getD_some]
      rw [hdrop] at hrun
      have hsm := hs.2 _ hxm
      generalize h.getD i default = x at hxm hrun hsm ⊢
      have hm7 : M' id7 = none := hid7 id7 (Nat.le_refl _)
      have hMm : M' idm = some (.map (ms.map ient)) := by
        rcases hmem with ⟨_, _, rfl⟩ | ⟨idO, ho, _, rfl⟩
        · exact Mem.set_eq _ _ _
        · rw [Mem.set_ne _ _ _ _ (by omega), Mem.set_eq]
      have hne : idm ≠ id7 := fun e => by subst e; rw [hm7] at hMm; cases hMm
      have hmlt : idm < id7 := lt_of_bnd hid7 hMm
      have hMle : M.le M' := by
        rcases hmem with ⟨_, _, rfl⟩ | ⟨idO, ho, _, rfl⟩
        · exact le_new (Mem.le_refl _) hidm
        · exact le_new (le_new (Mem.le_refl _) hidm) (fun j hj => hidm j (by omega))
      have hMle7 : ∀ b, M.le (M'.set id7 b) := fun b => Mem.le_set hMle (by
        cases hq : M id7 with
        | none => rfl
        | some b' => rw [hMle _ _ hq] at hm7; cases hm7)
      have hbad : ∀ b, rstep i x (out, ms) = none → @finI prog (.tup [.l .nils, .l (.bool false)]) (M'.set id7 b) ⟨fun r M' => r = readV h ∧ M' = M⟩ := fun b hb => by
        refine finI_of (XFin.wk (XFin.le (hMle7 b) ⟨?_, rfl⟩))
        simp only [readV, readP, hrun, rrun, hb, Option.bind_none, Option.map_none, wkT, List.map_cons, List.map_nil, wkA, wkL]
      have hM7m : ∀ b, (M'.set id7 b) idm = some (.map (ms.map ient)) := fun b => by rw [Mem.set_ne _ _ _ _ (Ne.symm hne)]; exact hMm
      refine gI_prop_f (fun hw => ?_) (fun hw => ?_)
      · simp -implicitDefEqProofs (maxSteps := 1000000) (disch := omega) only [↓xsP, ↓vc_seq, xsQ, xsT, xsR, xsD, ↓reduceIte, reduceCtorEq, eq_self, ne_eq, imp_self, forall_const, Nat.reduceEqDiff, Nat.reduceAdd, Nat.reduceSub, Nat.reduceMul, Nat.reduceLT, Nat.reduceLeDiff, Nat.reduceBEq, Nat.reduceDiv, Nat.reduceMod, Int.reduceToNat, Int.reduceNeg, Int.reduceAdd, Int.reduceSub, Int.reduceMul, Int.reduceEq, Int.reduceNe, Int.reduceLT, Int.reduceLE, Int.reduceGT, Int.reduceGE, h10, h11, h12, hw]
        refine condI_prop (fun hw2 => ?_) (fun hw2 => ?_)
        · simp -implicitDefEqProofs (maxSteps := 1000000) (disch := omega) only [↓xsP, ↓vc_seq, xsQ, xsT, xsR, xsD, ↓reduceIte, reduceCtorEq, eq_self, ne_eq, imp_self, forall_const, Nat.reduceEqDiff, Nat.reduceAdd, Nat.reduceSub, Nat.reduceMul, Nat.reduceLT, Nat.reduceLeDiff, Nat.reduceBEq, Nat.reduceDiv, Nat.reduceMod, Int.reduceToNat, Int.reduceNeg, Int.reduceAdd, Int.reduceSub, Int.reduceMul, Int.reduceEq, Int.reduceNe, Int.reduceLT, Int.reduceLE, Int.reduceGT, Int.reduceGE, h10, h11, h12]
          exact hbad _ (by rw [rstep, if_pos (.inr hw2)])
        · simp -implicitDefEqProofs (maxSteps := 1000000) (disch := omega) only [↓xsP, ↓vc_seq, xsQ, xsT, xsR, xsD, ↓reduceIte, reduceCtorEq, eq_self, ne_eq, imp_self, forall_const, Nat.reduceEqDiff, Nat.reduceAdd, Nat.reduceSub, Nat.reduceMul, Nat.reduceLT, Nat.reduceLeDiff, Nat.reduceBEq, Nat.reduceDiv, Nat.reduceMod, Int.reduceToNat, Int.reduceNeg, Int.reduceAdd, Int.reduceSub, Int.reduceMul, Int.reduceEq, Int.reduceNe, Int.reduceLT, Int.reduceLE, Int.reduceGT, Int.reduceGE, h10, h11, h12, h5]
          refine optI_intro _ (lookup_ii ii48 (hM7m _) _).1 ?_
          have hgv : ∀ v, (iget ms x.who).getD 0 = v → 0 ≤ v ∧ v ≤ out.length ∧ (1 ≤ v → iget ms x.who = some v) := fun v hv => by
            cases hg : iget ms x.who with
            | none => rw [hg] at hv; simp at hv; omega
            | some u => rw [hg] at hv; simp at hv; have := hget _ _ hg; subst hv; exact ⟨by omega, by omega, fun _ => rfl⟩
          have hstep : rstep i x (out, ms) = if x.ret = false then
              (if 1 ≤ (iget ms x.who).getD 0 ∨ mayOpB x.op = false ∨ x.ans ≠ ans0 then none
              else some (out ++ [⟨x.who, i, -1, x.op, ans0⟩], iput ms x.who (out.length + 1)))
            else if (iget ms x.who).getD 0 < 1 ∨ (out.getD ((iget ms x.who).getD 0 - 1).toNat default).op ≠ x.op then none
              else some (out.set ((iget ms x.who).getD 0 - 1).toNat { out.getD ((iget ms x.who).getD 0 - 1).toNat default with fin := i, ans := x.ans }, idel ms x.who) := by
            rw [rstep, if_neg (by omega)]
          generalize hv : (iget ms x.who).getD 0 = v at hstep ⊢
          obtain ⟨hv0, hv1, hv2⟩ := hgv v hv
          have hs1 := hs.1
          simp -implicitDefEqProofs (maxSteps := 1000000) (disch := omega) only [↓xsP, ↓vc_seq, xsQ, xsT, xsR, xsD, ↓reduceIte, reduceCtorEq, eq_self, ne_eq, imp_self, forall_const, Nat.reduceEqDiff, Nat.reduceAdd, Nat.reduceSub, Nat.reduceMul, Nat.reduceLT, Nat.reduceLeDiff, Nat.reduceBEq, Nat.reduceDiv, Nat.reduceMod, Int.reduceToNat, Int.reduceNeg, Int.reduceAdd, Int.reduceSub, Int.reduceMul, Int.reduceEq, Int.reduceNe, Int.reduceLT, Int.reduceLE, Int.reduceGT, Int.reduceGE, h10, h11, h12, h5]
          cases hret : x.ret with
          | false =>
            rw [hret] at hstep
            simp only [if_true] at hstep
            simp -implicitDefEqProofs (maxSteps := 1000000) (disch := omega) only [↓xsP, ↓vc_seq, xsQ, xsT, xsR, xsD, ↓reduceIte, reduceCtorEq, eq_self, ne_eq, imp_self, forall_const, Nat.reduceEqDiff, Nat.reduceAdd, Nat.reduceSub, Nat.reduceMul, Nat.reduceLT, Nat.reduceLeDiff, Nat.reduceBEq, Nat.reduceDiv, Nat.reduceMod, Int.reduceToNat, Int.reduceNeg, Int.reduceAdd, Int.reduceSub, Int.reduceMul, Int.reduceEq, Int.reduceNe, Int.reduceLT, Int.reduceLE, Int.reduceGT, Int.reduceGE, h10, h11, h12, h5]
            refine gI_prop_f (fun hg1 => ?_) (fun hg1 => ?_)
            · simp -implicitDefEqProofs (maxSteps := 1000000) (disch := omega) only [↓xsP, ↓vc_seq, xsQ, xsT, xsR, xsD, ↓reduceIte, reduceCtorEq, eq_self, ne_eq, imp_self, forall_const, Nat.reduceEqDiff, Nat.reduceAdd, Nat.reduceSub, Nat.reduceMul, Nat.reduceLT, Nat.reduceLeDiff, Nat.reduceBEq, Nat.reduceDiv, Nat.reduceMod, Int.reduceToNat, Int.reduceNeg, Int.reduceAdd, Int.reduceSub, Int.reduceMul, Int.reduceEq, Int.reduceNe, Int.reduceLT, Int.reduceLE, Int.reduceGT, Int.reduceGE, h10, h11, h12, h5, hg1]
              refine callI_of ((mayOp_spec x.op _).mono ?_)
              rintro _ _ ⟨rfl, rfl⟩
              simp -implicitDefEqProofs (maxSteps := 1000000) (disch := omega) only [↓xsP, ↓vc_seq, xsQ, xsT, xsR, xsD, ↓reduceIte, reduceCtorEq, eq_self, ne_eq, imp_self, forall_const, Nat.reduceEqDiff, Nat.reduceAdd, Nat.reduceSub, Nat.reduceMul, Nat.reduceLT, Nat.reduceLeDiff, Nat.reduceBEq, Nat.reduceDiv, Nat.reduceMod, Int.reduceToNat, Int.reduceNeg, Int.reduceAdd, Int.reduceSub, Int.reduceMul, Int.reduceEq, Int.reduceNe, Int.reduceLT, Int.reduceLE, Int.reduceGT, Int.reduceGE, h10, h11, h12, h5, hg1]
              refine gI_f (fun hg2 => ?_) (fun hg2 => ?_)
              · simp -implicitDefEqProofs (maxSteps := 1000000) (disch := omega) only [↓xsP, ↓vc_seq, xsQ, xsT, xsR, xsD, ↓reduceIte, reduceCtorEq, eq_self, ne_eq, imp_self, forall_const, Nat.reduceEqDiff, Nat.reduceAdd, Nat.reduceSub, Nat.reduceMul, Nat.reduceLT, Nat.reduceLeDiff, Nat.reduceBEq, Nat.reduceDiv, Nat.reduceMod, Int.reduceToNat, Int.reduceNeg, Int.reduceAdd, Int.reduceSub, Int.reduceMul, Int.reduceEq, Int.reduceNe, Int.reduceLT, Int.reduceLE, Int.reduceGT, Int.reduceGE, h10, h11, h12, h5, hg2]
                refine callI_of (XCalls.wk ((sameAns_spec x.ans ans0 (by omega) _).mono ?_))
                rintro _ _ ⟨rfl, rfl⟩
                simp -implicitDefEqProofs (maxSteps := 1000000) (disch := omega) only [↓xsP, ↓vc_seq, xsQ, xsT, xsR, xsD, ↓reduceIte, reduceCtorEq, eq_self, ne_eq, imp_self, forall_const, Nat.reduceEqDiff, Nat.reduceAdd, Nat.reduceSub, Nat.reduceMul, Nat.reduceLT, Nat.reduceLeDiff, Nat.reduceBEq, Nat.reduceDiv, Nat.reduceMod, Int.reduceToNat, Int.reduceNeg, Int.reduceAdd, Int.reduceSub, Int.reduceMul, Int.reduceEq, Int.reduceNe, Int.reduceLT, Int.reduceLE, Int.reduceGT, Int.reduceGE, h10, h11, h12, h5, hg1, hg2]
                refine condI_intro (fun hg3 => ?_) (fun hg3 => ?_)
                · simp -implicitDefEqProofs (maxSteps := 1000000) (disch := omega) only [↓xsP, ↓vc_seq, xsQ, xsT, xsR, xsD, ↓reduceIte, reduceCtorEq, eq_self, ne_eq, imp_self, forall_const, Nat.reduceEqDiff, Nat.reduceAdd, Nat.reduceSub, Nat.reduceMul, Nat.reduceLT, Nat.reduceLeDiff, Nat.reduceBEq, Nat.reduceDiv, Nat.reduceMod, Int.reduceToNat, Int.reduceNeg, Int.reduceAdd, Int.reduceSub, Int.reduceMul, Int.reduceEq, Int.reduceNe, Int.reduceLT, Int.reduceLE, Int.reduceGT, Int.reduceGE, h10, h11, h12, h5]
                  have hne3 : x.ans ≠ ans0 := bof_not.1 (by simpa using hg3)
                  exact hbad _ (by rw [hstep, if_pos (.inr (.inr hne3))])
                · have heq3 : x.ans = ans0 := bof_iff.1 (by simpa using hg3)
                  have hmo : mayOpB x.op = true := by simpa using hg2
                  rw [if_neg (by simp [heq3, hmo]; omega)] at hstep
                  simp -implicitDefEqProofs (maxSteps := 1000000) (disch := omega) only [↓xsP, ↓vc_seq, xsQ, xsT, xsR, xsD, ↓reduceIte, reduceCtorEq, eq_self, ne_eq, imp_self, forall_const, Nat.reduceEqDiff, Nat.reduceAdd, Nat.reduceSub, Nat.reduceMul, Nat.reduceLT, Nat.reduceLeDiff, Nat.reduceBEq, Nat.reduceDiv, Nat.reduceMod, Int.reduceToNat, Int.reduceNeg, Int.reduceAdd, Int.reduceSub, Int.reduceMul, Int.reduceEq, Int.reduceNe, Int.reduceLT, Int.reduceLE, Int.reduceGT, Int.reduceGE, h10, h11, h12, h5]
                  refine xquiet (by kernel_rfl) (by kernel_rfl) (by kernel_rfl) ?_
                  have hlast : ∀ (i' : Nat), i' = i + 1 → rrun h 0 ([], []) = rrun (h.drop i') i' (out ++ [⟨x.who, i, -1, x.op, ans0⟩], iput ms x.who (out.length + 1)) := fun i' hi' => by
                    rw [hrun, rrun, hstep, Option.bind_some, hi']
                  rcases hmem with ⟨ho, h4, hM'⟩ | ⟨idO, ho, h4, hM'⟩
                  · simp -implicitDefEqProofs (maxSteps := 1000000) (disch := omega) only [↓xsP, ↓vc_seq, xsQ, xsT, xsR, xsD, ↓reduceIte, reduceCtorEq, eq_self, ne_eq, imp_self, forall_const, Nat.reduceEqDiff, Nat.reduceAdd, Nat.reduceSub, Nat.reduceMul, Nat.reduceLT, Nat.reduceLeDiff, Nat.reduceBEq, Nat.reduceDiv, Nat.reduceMod, Int.reduceToNat, Int.reduceNeg, Int.reduceAdd, Int.reduceSub, Int.reduceMul, Int.reduceEq, Int.reduceNe, Int.reduceLT, Int.reduceLE, Int.reduceGT, Int.reduceGE, h10, h11, h12, h5, h4]
                    refine newI_intro fun idn hidn => ?_
                    obtain ⟨h7n, hidn⟩ := bnd_new hidn
                    simp -implicitDefEqProofs (maxSteps := 1000000) (disch := omega) only [↓xsP, ↓vc_seq, xsQ, xsT, xsR, xsD, ↓reduceIte, reduceCtorEq, eq_self, ne_eq, imp_self, forall_const, Nat.reduceEqDiff, Nat.reduceAdd, Nat.reduceSub, Nat.reduceMul, Nat.reduceLT, Nat.reduceLeDiff, Nat.reduceBEq, Nat.reduceDiv, Nat.reduceMod, Int.reduceToNat, Int.reduceNeg, Int.reduceAdd, Int.reduceSub, Int.reduceMul, Int.reduceEq, Int.reduceNe, Int.reduceLT, Int.reduceLE, Int.reduceGT, Int.reduceGE, h10, h11, h12, h5, h4]
                    refine app_nils _ _ _ _ 77 _ _ ti_54 rfl ti_77 (by kernel_rfl) (by decide) _ [openRow x i] ?_ ?_ ?_ ?_ ?_
                    · simp -implicitDefEqProofs (maxSteps := 1000000) (disch := omega) only [↓xsP, ↓vc_seq, xsQ, xsT, xsR, xsD, ↓reduceIte, reduceCtorEq, eq_self, ne_eq, imp_self, forall_const, Nat.reduceEqDiff, Nat.reduceAdd, Nat.reduceSub, Nat.reduceMul, Nat.reduceLT, Nat.reduceLeDiff, Nat.reduceBEq, Nat.reduceDiv, Nat.reduceMod, Int.reduceToNat, Int.reduceNeg, Int.reduceAdd, Int.reduceSub, Int.reduceMul, Int.reduceEq, Int.reduceNe, Int.reduceLT, Int.reduceLE, Int.reduceGT, Int.reduceGE, openRow]
                    · simp
                    · simp
                    · simp
                    · intro _ idA hidA
                      obtain ⟨hnA, hidA⟩ := bnd_new hidA
                      simp -implicitDefEqProofs (maxSteps := 1000000) (disch := omega) only [↓xsP, ↓vc_seq, xsQ, xsT, xsR, xsD, ↓reduceIte, reduceCtorEq, eq_self, ne_eq, imp_self, forall_const, Nat.reduceEqDiff, Nat.reduceAdd, Nat.reduceSub, Nat.reduceMul, Nat.reduceLT, Nat.reduceLeDiff, Nat.reduceBEq, Nat.reduceDiv, Nat.reduceMod, Int.reduceToNat, Int.reduceNeg, Int.reduceAdd, Int.reduceSub, Int.reduceMul, Int.reduceEq, Int.reduceNe, Int.reduceLT, Int.reduceLE, Int.reduceGT, Int.reduceGE, h10, h11, h12, h5, h4]
                      refine optI_intro _ (mapUpd_ii (ms := ms) ii48 ?_ _ _) ?_
                      · rw [Mem.set_ne _ _ _ _ (by omega), Mem.set_ne _ _ _ _ (by omega), Mem.set_ne _ _ _ _ (by omega)]
                        exact hMm
                      · simp -implicitDefEqProofs (maxSteps := 1000000) (disch := omega) only [↓xsP, ↓vc_seq, xsQ, xsT, xsR, xsD, ↓reduceIte, reduceCtorEq, eq_self, ne_eq, imp_self, forall_const, Nat.reduceEqDiff, Nat.reduceAdd, Nat.reduceSub, Nat.reduceMul, Nat.reduceLT, Nat.reduceLeDiff, Nat.reduceBEq, Nat.reduceDiv, Nat.reduceMod, Int.reduceToNat, Int.reduceNeg, Int.reduceAdd, Int.reduceSub, Int.reduceMul, Int.reduceEq, Int.reduceNe, Int.reduceLT, Int.reduceLE, Int.reduceGT, Int.reduceGE, h10, h11, h12, h5, h4]
                        subst ho
                        have e1 : ((([] : List Cl).length : Int) + 1) = ((1 : Nat) : Int) := by simp
                        rw [e1] at hlast
                        refine ⟨h.length - (i + 1), (M.set idm (.map ((iput ms x.who ((1 : Nat) : Int)).map ient))).set idA (.cells 77 (([] ++ [⟨x.who, i, -1, x.op, ans0⟩] : List Cl).map Cl.row) 0), by omega, ?_, i + 1, [] ++ [⟨x.who, i, -1, x.op, ans0⟩], iput ms x.who ((1 : Nat) : Int), by omega, rfl, by simp, hlast _ rfl, iput_nod hnod _ _, by simp, fun k v hk => ?_, .inr ⟨idA, by omega, by simp, rfl⟩⟩
                        · refine step_end hidm (by omega) ?_ (Mem.set_eq _ _ _) (fun j b hj hb => ?_) (rows := [openRow x i]) (by simp [open_wk])
                          · rw [Mem.set_ne _ _ _ _ (by omega)]
                            exact Mem.set_eq _ _ _
                          · rw [Mem.set_ne _ _ _ _ (by omega), Mem.set_ne _ _ _ _ (by omega), Mem.set_ne _ _ _ _ (by omega), Mem.set_ne _ _ _ _ (by omega), hM', Mem.set_ne _ _ _ _ (by omega)]
                            exact hb
                        · rw [iget_put] at hk
                          split at hk
                          · simp only [Option.some.injEq] at hk
                            subst hk
                            simp
                          · have := hget k v hk
                            simp at this ⊢
                            omega
                  · have hMO : M' idO = some (.cells 77 (out.map Cl.row) 0) := by rw [hM']; exact Mem.set_eq _ _ _
                    have h7O : idO < id7 := lt_of_bnd hid7 hMO
                    simp -implicitDefEqProofs (maxSteps := 1000000) (disch := omega) only [↓xsP, ↓vc_seq, xsQ, xsT, xsR, xsD, ↓reduceIte, reduceCtorEq, eq_self, ne_eq, imp_self, forall_const, Nat.reduceEqDiff, Nat.reduceAdd, Nat.reduceSub, Nat.reduceMul, Nat.reduceLT, Nat.reduceLeDiff, Nat.reduceBEq, Nat.reduceDiv, Nat.reduceMod, Int.reduceToNat, Int.reduceNeg, Int.reduceAdd, Int.reduceSub, Int.reduceMul, Int.reduceEq, Int.reduceNe, Int.reduceLT, Int.reduceLE, Int.reduceGT, Int.reduceGE, h10, h11, h12, h5, h4]
                    refine newI_intro fun idn hidn => ?_
                    obtain ⟨h7n, hidn⟩ := bnd_new hidn
                    simp -implicitDefEqProofs (maxSteps := 1000000) (disch := omega) only [↓xsP, ↓vc_seq, xsQ, xsT, xsR, xsD, ↓reduceIte, reduceCtorEq, eq_self, ne_eq, imp_self, forall_const, Nat.reduceEqDiff, Nat.reduceAdd, Nat.reduceSub, Nat.reduceMul, Nat.reduceLT, Nat.reduceLeDiff, Nat.reduceBEq, Nat.reduceDiv, Nat.reduceMod, Int.reduceToNat, Int.reduceNeg, Int.reduceAdd, Int.reduceSub, Int.reduceMul, Int.reduceEq, Int.reduceNe, Int.reduceLT, Int.reduceLE, Int.reduceGT, Int.reduceGE, h10, h11, h12, h5, h4]
                    refine app_ms _ _ _ _ 77 _ _ ti_54 rfl ti_77 (by kernel_rfl) (by decide) idO out.length _ (rows := out.map Cl.row) (keep := 0) [openRow x i] ?_ ?_ ?_ (Nat.zero_le _) ?_ ?_ ?_
                    · rw [Mem.set_ne _ _ _ _ (by omega), Mem.set_ne _ _ _ _ (by omega)]
                      exact hMO
                    · simp -implicitDefEqProofs (maxSteps := 1000000) (disch := omega) only [↓xsP, ↓vc_seq, xsQ, xsT, xsR, xsD, ↓reduceIte, reduceCtorEq, eq_self, ne_eq, imp_self, forall_const, Nat.reduceEqDiff, Nat.reduceAdd, Nat.reduceSub, Nat.reduceMul, Nat.reduceLT, Nat.reduceLeDiff, Nat.reduceBEq, Nat.reduceDiv, Nat.reduceMod, Int.reduceToNat, Int.reduceNeg, Int.reduceAdd, Int.reduceSub, Int.reduceMul, Int.reduceEq, Int.reduceNe, Int.reduceLT, Int.reduceLE, Int.reduceGT, Int.reduceGE, openRow]
                    · simp
                    · exact Nat.le_trans (Nat.mul_le_mul_right _ (show out.length + [openRow x i].length ≤ 1000001 by simp; omega)) (by decide)
                    · simp
                      omega
                    · intro idA hidA
                      obtain ⟨hnA, hidA⟩ := bnd_new hidA
                      simp -implicitDefEqProofs (maxSteps := 1000000) (disch := omega) only [↓xsP, ↓vc_seq, xsQ, xsT, xsR, xsD, ↓reduceIte, reduceCtorEq, eq_self, ne_eq, imp_self, forall_const, Nat.reduceEqDiff, Nat.reduceAdd, Nat.reduceSub, Nat.reduceMul, Nat.reduceLT, Nat.reduceLeDiff, Nat.reduceBEq, Nat.reduceDiv, Nat.reduceMod, Int.reduceToNat, Int.reduceNeg, Int.reduceAdd, Int.reduceSub, Int.reduceMul, Int.reduceEq, Int.reduceNe, Int.reduceLT, Int.reduceLE, Int.reduceGT, Int.reduceGE, h10, h11, h12, h5, h4]
                      refine optI_intro _ (mapUpd_ii (ms := ms) ii48 ?_ _ _) ?_
                      · rw [Mem.set_ne _ _ _ _ (by omega), Mem.del_ne _ _ _ (by omega), Mem.set_ne _ _ _ _ (by omega), Mem.set_ne _ _ _ _ (by omega)]
                        exact hMm
                      · simp -implicitDefEqProofs (maxSteps := 1000000) (disch := omega) only [↓xsP, ↓vc_seq, xsQ, xsT, xsR, xsD, ↓reduceIte, reduceCtorEq, eq_self, ne_eq, imp_self, forall_const, Nat.reduceEqDiff, Nat.reduceAdd, Nat.reduceSub, Nat.reduceMul, Nat.reduceLT, Nat.reduceLeDiff, Nat.reduceBEq, Nat.reduceDiv, Nat.reduceMod, Int.reduceToNat, Int.reduceNeg, Int.reduceAdd, Int.reduceSub, Int.reduceMul, Int.reduceEq, Int.reduceNe, Int.reduceLT, Int.reduceLE, Int.reduceGT, Int.reduceGE, h10, h11, h12, h5, h4]
                        have e1 : ((out.length : Int) + 1) = ((out.length + 1 : Nat) : Int) := by omega
                        rw [e1] at hlast
                        refine ⟨h.length - (i + 1), (M.set idm (.map ((iput ms x.who ((out.length + 1 : Nat) : Int)).map ient))).set idA (.cells 77 ((out ++ [⟨x.who, i, -1, x.op, ans0⟩] : List Cl).map Cl.row) 0), by omega, ?_, i + 1, out ++ [⟨x.who, i, -1, x.op, ans0⟩], iput ms x.who ((out.length + 1 : Nat) : Int), by omega, rfl, by simp, hlast _ rfl, iput_nod hnod _ _, by simp; omega, fun k v hk => ?_, .inr ⟨idA, by omega, by simp, rfl⟩⟩
                        · refine step_end hidm (by omega) ?_ (Mem.set_eq _ _ _) (fun j b hj hb => ?_) (rows := (out.map Cl.row).take out.length ++ [openRow x i]) ?_
                          · rw [Mem.set_ne _ _ _ _ (by omega)]
                            exact Mem.set_eq _ _ _
                          · rw [Mem.set_ne _ _ _ _ (by omega), Mem.set_ne _ _ _ _ (by omega), Mem.del_ne _ _ _ (by omega), Mem.set_ne _ _ _ _ (by omega), Mem.set_ne _ _ _ _ (by omega), hM', Mem.set_ne _ _ _ _ (by omega), Mem.set_ne _ _ _ _ (by omega)]
                            exact hb
                          · rw [List.take_of_length_le (by simp), List.map_append, cls_wk, List.map_append]
                            simp [open_wk]
                        · rw [iget_put] at hk
                          split at hk
                          · simp only [Option.some.injEq] at hk
                            subst hk
                            simp
                            omega
                          · have := hget k v hk
                            simp at this ⊢
                            omega
              · simp -implicitDefEqProofs (maxSteps := 1000000) (disch := omega) only [↓xsP, ↓vc_seq, xsQ, xsT, xsR, xsD, ↓reduceIte, reduceCtorEq, eq_self, ne_eq, imp_self, forall_const, Nat.reduceEqDiff, Nat.reduceAdd, Nat.reduceSub, Nat.reduceMul, Nat.reduceLT, Nat.reduceLeDiff, Nat.reduceBEq, Nat.reduceDiv, Nat.reduceMod, Int.reduceToNat, Int.reduceNeg, Int.reduceAdd, Int.reduceSub, Int.reduceMul, Int.reduceEq, Int.reduceNe, Int.reduceLT, Int.reduceLE, Int.reduceGT, Int.reduceGE, h10, h11, h12, h5, hg2]
                exact hbad _ (by rw [hstep, if_pos (.inr (.inl (by simpa using hg2)))])
            · simp -implicitDefEqProofs (maxSteps := 1000000) (disch := omega) only [↓xsP, ↓vc_seq, xsQ, xsT, xsR, xsD, ↓reduceIte, reduceCtorEq, eq_self, ne_eq, imp_self, forall_const, Nat.reduceEqDiff, Nat.reduceAdd, Nat.reduceSub, Nat.reduceMul, Nat.reduceLT, Nat.reduceLeDiff, Nat.reduceBEq, Nat.reduceDiv, Nat.reduceMod, Int.reduceToNat, Int.reduceNeg, Int.reduceAdd, Int.reduceSub, Int.reduceMul, Int.reduceEq, Int.reduceNe, Int.reduceLT, Int.reduceLE, Int.reduceGT, Int.reduceGE, h10, h11, h12, h5, hg1]
              exact hbad _ (by rw [hstep, if_pos (.inl (by omega))])
          | true =>
            rw [hret] at hstep
            simp only [Bool.true_eq_false, if_false] at hstep
            simp -implicitDefEqProofs (maxSteps := 1000000) (disch := omega) only [↓xsP, ↓vc_seq, xsQ, xsT, xsR, xsD, ↓reduceIte, reduceCtorEq, eq_self, ne_eq, imp_self, forall_const, Nat.reduceEqDiff, Nat.reduceAdd, Nat.reduceSub, Nat.reduceMul, Nat.reduceLT, Nat.reduceLeDiff, Nat.reduceBEq, Nat.reduceDiv, Nat.reduceMod, Int.reduceToNat, Int.reduceNeg, Int.reduceAdd, Int.reduceSub, Int.reduceMul, Int.reduceEq, Int.reduceNe, Int.reduceLT, Int.reduceLE, Int.reduceGT, Int.reduceGE, h10, h11, h12, h5]
            refine xquiet (by kernel_rfl) (by kernel_rfl) (by kernel_rfl) ?_
            simp -implicitDefEqProofs (maxSteps := 1000000) (disch := omega) only [↓xsP, ↓vc_seq, xsQ, xsT, xsR, xsD, ↓reduceIte, reduceCtorEq, eq_self, ne_eq, imp_self, forall_const, Nat.reduceEqDiff, Nat.reduceAdd, Nat.reduceSub, Nat.reduceMul, Nat.reduceLT, Nat.reduceLeDiff, Nat.reduceBEq, Nat.reduceDiv, Nat.reduceMod, Int.reduceToNat, Int.reduceNeg, Int.reduceAdd, Int.reduceSub, Int.reduceMul, Int.reduceEq, Int.reduceNe, Int.reduceLT, Int.reduceLE, Int.reduceGT, Int.reduceGE, h10, h11, h12, h5]
            refine gI_prop_f (fun hg1 => ?_) (fun hg1 => ?_)
            · rcases hmem with ⟨rfl, h4, hM'⟩ | ⟨idO, ho, h4, hM'⟩
              · simp only [List.length_nil] at hv1
                omega
              · have hMO : M' idO = some (.cells 77 (out.map Cl.row) 0) := by rw [hM']; exact Mem.set_eq _ _ _
                have h7O : idO < id7 := lt_of_bnd hid7 hMO
                simp -implicitDefEqProofs (maxSteps := 1000000) (disch := omega) only [↓xsP, ↓vc_seq, xsQ, xsT, xsR, xsD, ↓reduceIte, reduceCtorEq, eq_self, ne_eq, imp_self, forall_const, Nat.reduceEqDiff, Nat.reduceAdd, Nat.reduceSub, Nat.reduceMul, Nat.reduceLT, Nat.reduceLeDiff, Nat.reduceBEq, Nat.reduceDiv, Nat.reduceMod, Int.reduceToNat, Int.reduceNeg, Int.reduceAdd, Int.reduceSub, Int.reduceMul, Int.reduceEq, Int.reduceNe, Int.reduceLT, Int.reduceLE, Int.reduceGT, Int.reduceGE, h10, h11, h12, h5, h4, hg1, hMO]
                refine condI_intro (fun hg2 => ?_) (fun hg2 => ?_)
                · simp -implicitDefEqProofs (maxSteps := 1000000) (disch := omega) only [↓xsP, ↓vc_seq, xsQ, xsT, xsR, xsD, ↓reduceIte, reduceCtorEq, eq_self, ne_eq, imp_self, forall_const, Nat.reduceEqDiff, Nat.reduceAdd, Nat.reduceSub, Nat.reduceMul, Nat.reduceLT, Nat.reduceLeDiff, Nat.reduceBEq, Nat.reduceDiv, Nat.reduceMod, Int.reduceToNat, Int.reduceNeg, Int.reduceAdd, Int.reduceSub, Int.reduceMul, Int.reduceEq, Int.reduceNe, Int.reduceLT, Int.reduceLE, Int.reduceGT, Int.reduceGE, h10, h11, h12, h5, h4]
                  refine hbad _ ?_
                  rw [hstep, if_pos (.inr fun e => by
                    obtain ⟨e1, e2, e3, e4⟩ := (opn_eq _ _).1 e
                    simp only [e1, e2, e3, e4, decide_true, Bool.and_self, Bool.not_true, Bool.false_eq_true] at hg2)]
                · have heq : (out.getD (v - 1).toNat default).op = x.op := by
                    simp only [Bool.not_eq_false', Bool.and_eq_true, decide_eq_true_eq] at hg2
                    exact (opn_eq _ _).2 hg2
                  rw [if_neg (by simp only [heq, ne_eq, not_true_eq_false, or_false]; omega)] at hstep
                  simp -implicitDefEqProofs (maxSteps := 1000000) (disch := omega) only [↓xsP, ↓vc_seq, xsQ, xsT, xsR, xsD, ↓reduceIte, reduceCtorEq, eq_self, ne_eq, imp_self, forall_const, Nat.reduceEqDiff, Nat.reduceAdd, Nat.reduceSub, Nat.reduceMul, Nat.reduceLT, Nat.reduceLeDiff, Nat.reduceBEq, Nat.reduceDiv, Nat.reduceMod, Int.reduceToNat, Int.reduceNeg, Int.reduceAdd, Int.reduceSub, Int.reduceMul, Int.reduceEq, Int.reduceNe, Int.reduceLT, Int.reduceLE, Int.reduceGT, Int.reduceGE, h10, h11, h12, h5, h4]
                  refine xwrite (fun n0 => [ (9, idO), (12, idO)]) [9, 12] [] [[], [], [9], [9], [], [9], [9], [], [], [], [], [], []] (by kernel_rfl) (by kernel_rfl) (by kernel_rfl) (by kernel_rfl) (fun n0 hn0 => ⟨rfl, ?_, ?_⟩)
                  · obtain ⟨h7n, hn0⟩ := bnd_new hn0
                    exact TOk_cons (.inl (by omega)) (TOk_cons (.inl (by omega)) (TOk_nil _ _))
                  · obtain ⟨h7n, hn0⟩ := bnd_new hn0
                    have hlast : ∀ (i' : Nat), i' = i + 1 → rrun h 0 ([], []) = rrun (h.drop i') i' (out.set (v - 1).toNat { out.getD (v - 1).toNat default with fin := i, ans := x.ans }, idel ms x.who) := fun i' hi' => by
                      rw [hrun, rrun, hstep, Option.bind_some, hi']
                    have hgd : ∀ k v', iget (idel ms x.who) k = some v' → 1 ≤ v' ∧ v' ≤ (out.set (v - 1).toNat { out.getD (v - 1).toNat default with fin := i, ans := x.ans }).length := fun k v' hk => by
                      rw [iget_del hnod] at hk
                      split at hk
                      · cases hk
                      · simpa using hget k v' hk
                    simp -implicitDefEqProofs (maxSteps := 1000000) (disch := omega) only [↓xsP, ↓vc_seq, xsQ, xsT, xsR, xsD, ↓reduceIte, reduceCtorEq, eq_self, ne_eq, imp_self, forall_const, Nat.reduceEqDiff, Nat.reduceAdd, Nat.reduceSub, Nat.reduceMul, Nat.reduceLT, Nat.reduceLeDiff, Nat.reduceBEq, Nat.reduceDiv, Nat.reduceMod, Int.reduceToNat, Int.reduceNeg, Int.reduceAdd, Int.reduceSub, Int.reduceMul, Int.reduceEq, Int.reduceNe, Int.reduceLT, Int.reduceLE, Int.reduceGT, Int.reduceGE, h10, h11, h12, h5, h4, hMO]
                    refine app_nils _ _ _ _ 32 _ _ ti_22 rfl ti_32 (by kernel_rfl) (by decide) _ (x.ans.pairs.map Pr.row) ?_ ?_ ?_ (fun he => ?_) (fun hne4 idP hidP => ?_)
                    · simp -implicitDefEqProofs (maxSteps := 1000000) (disch := omega) only [↓xsP, ↓vc_seq, xsQ, xsT, xsR, xsD, ↓reduceIte, reduceCtorEq, eq_self, ne_eq, imp_self, forall_const, Nat.reduceEqDiff, Nat.reduceAdd, Nat.reduceSub, Nat.reduceMul, Nat.reduceLT, Nat.reduceLeDiff, Nat.reduceBEq, Nat.reduceDiv, Nat.reduceMod, Int.reduceToNat, Int.reduceNeg, Int.reduceAdd, Int.reduceSub, Int.reduceMul, Int.reduceEq, Int.reduceNe, Int.reduceLT, Int.reduceLE, Int.reduceGT, Int.reduceGE]
                      rw [if_pos]
                      intro r hr
                      obtain ⟨p, _, rfl⟩ := List.mem_map.1 hr
                      rfl
                    · exact Nat.le_trans (Nat.mul_le_mul_right _ (show (x.ans.pairs.map Pr.row).length ≤ 1000001 by simp; omega)) (by decide)
                    · simp
                      omega
                    · simp -implicitDefEqProofs (maxSteps := 1000000) (disch := omega) only [↓xsP, ↓vc_seq, xsQ, xsT, xsR, xsD, ↓reduceIte, reduceCtorEq, eq_self, ne_eq, imp_self, forall_const, Nat.reduceEqDiff, Nat.reduceAdd, Nat.reduceSub, Nat.reduceMul, Nat.reduceLT, Nat.reduceLeDiff, Nat.reduceBEq, Nat.reduceDiv, Nat.reduceMod, Int.reduceToNat, Int.reduceNeg, Int.reduceAdd, Int.reduceSub, Int.reduceMul, Int.reduceEq, Int.reduceNe, Int.reduceLT, Int.reduceLE, Int.reduceGT, Int.reduceGE, h10, h11, h12, h5, h4, hMO]
                      refine optI_intro _ (mapDel_ii (ms := ms) ii48 ?_ _) ?_
                      · rw [Mem.set_ne _ _ _ _ (by omega), Mem.set_ne _ _ _ _ (by omega)]
                        exact hMm
                      · simp -implicitDefEqProofs (maxSteps := 1000000) (disch := omega) only [↓xsP, ↓vc_seq, xsQ, xsT, xsR, xsD, ↓reduceIte, reduceCtorEq, eq_self, ne_eq, imp_self, forall_const, Nat.reduceEqDiff, Nat.reduceAdd, Nat.reduceSub, Nat.reduceMul, Nat.reduceLT, Nat.reduceLeDiff, Nat.reduceBEq, Nat.reduceDiv, Nat.reduceMod, Int.reduceToNat, Int.reduceNeg, Int.reduceAdd, Int.reduceSub, Int.reduceMul, Int.reduceEq, Int.reduceNe, Int.reduceLT, Int.reduceLE, Int.reduceGT, Int.reduceGE, h10, h11, h12, h5, h4, hMO]
                        have hp : x.ans.pairs = [] := by simpa using he
                        refine ⟨h.length - (i + 1), (M.set idm (.map ((idel ms x.who).map ient))).set idO (.cells 77 ((out.set (v - 1).toNat { out.getD (v - 1).toNat default with fin := i, ans := x.ans }).map Cl.row) 0), by omega, ?_, i + 1, (out.set (v - 1).toNat { out.getD (v - 1).toNat default with fin := i, ans := x.ans }), idel ms x.who, by omega, rfl, by simp, hlast _ rfl, idel_nod hnod _, by simp; omega, hgd, .inr ⟨idO, ho, by simp, rfl⟩⟩
                        refine step_end hidm ho ?_ (Mem.set_eq _ _ _) (fun j b hj hb => ?_) (set_wk out _ i (out.getD (v - 1).toNat default) x.ans hp)
                        · rw [Mem.set_ne _ _ _ _ (by omega)]
                          exact Mem.set_eq _ _ _
                        · rw [hM']
                          simp only [Mem.set_app]
                          (repeat rw [if_neg (by omega)])
                          exact hb
                    · obtain ⟨hOP, hidP⟩ := bnd_new hidP
                      obtain ⟨h7P, hidP⟩ := bnd_new hidP
                      simp -implicitDefEqProofs (maxSteps := 1000000) (disch := omega) only [↓xsP, ↓vc_seq, xsQ, xsT, xsR, xsD, ↓reduceIte, reduceCtorEq, eq_self, ne_eq, imp_self, forall_const, Nat.reduceEqDiff, Nat.reduceAdd, Nat.reduceSub, Nat.reduceMul, Nat.reduceLT, Nat.reduceLeDiff, Nat.reduceBEq, Nat.reduceDiv, Nat.reduceMod, Int.reduceToNat, Int.reduceNeg, Int.reduceAdd, Int.reduceSub, Int.reduceMul, Int.reduceEq, Int.reduceNe, Int.reduceLT, Int.reduceLE, Int.reduceGT, Int.reduceGE, h10, h11, h12, h5, h4, hMO]
                      refine optI_intro _ (mapDel_ii (ms := ms) ii48 ?_ _) ?_
                      · simp only [Mem.set_app]
                        (repeat rw [if_neg (by omega)])
                        exact hMm
                      · simp -implicitDefEqProofs (maxSteps := 1000000) (disch := omega) only [↓xsP, ↓vc_seq, xsQ, xsT, xsR, xsD, ↓reduceIte, reduceCtorEq, eq_self, ne_eq, imp_self, forall_const, Nat.reduceEqDiff, Nat.reduceAdd, Nat.reduceSub, Nat.reduceMul, Nat.reduceLT, Nat.reduceLeDiff, Nat.reduceBEq, Nat.reduceDiv, Nat.reduceMod, Int.reduceToNat, Int.reduceNeg, Int.reduceAdd, Int.reduceSub, Int.reduceMul, Int.reduceEq, Int.reduceNe, Int.reduceLT, Int.reduceLE, Int.reduceGT, Int.reduceGE, h10, h11, h12, h5, h4, hMO]
                        refine ⟨h.length - (i + 1), (M.set idm (.map ((idel ms x.who).map ient))).set idO (.cells 77 ((out.set (v - 1).toNat { out.getD (v - 1).toNat default with fin := i, ans := x.ans }).map Cl.row) 0), by omega, ?_, i + 1, (out.set (v - 1).toNat { out.getD (v - 1).toNat default with fin := i, ans := x.ans }), idel ms x.who, by omega, rfl, by simp, hlast _ rfl, idel_nod hnod _, by simp; omega, hgd, .inr ⟨idO, ho, by simp, rfl⟩⟩
                        refine step_end_frz (idP := idP) (Tp := 32) (kp := 0) (prow := x.ans.pairs.map Pr.row) hidm ho (by omega) (by omega) ?_ ?_ (Mem.set_eq _ _ _) (fun j b hj hb => ?_) (set_frz idP out _ i (out.getD (v - 1).toNat default) x.ans)
                        · rw [Mem.set_ne _ _ _ _ (by omega)]
                          exact Mem.set_eq _ _ _
                        · rw [Mem.set_ne _ _ _ _ (by omega), Mem.set_ne _ _ _ _ (by omega)]
                          exact Mem.set_eq _ _ _
                        · rw [hM']
                          simp only [Mem.set_app]
                          (repeat rw [if_neg (by omega)])
                          exact hb
            · simp -implicitDefEqProofs (maxSteps := 1000000) (disch := omega) only [↓xsP, ↓vc_seq, xsQ, xsT, xsR, xsD, ↓reduceIte, reduceCtorEq, eq_self, ne_eq, imp_self, forall_const, Nat.reduceEqDiff, Nat.reduceAdd, Nat.reduceSub, Nat.reduceMul, Nat.reduceLT, Nat.reduceLeDiff, Nat.reduceBEq, Nat.reduceDiv, Nat.reduceMod, Int.reduceToNat, Int.reduceNeg, Int.reduceAdd, Int.reduceSub, Int.reduceMul, Int.reduceEq, Int.reduceNe, Int.reduceLT, Int.reduceLE, Int.reduceGT, Int.reduceGE, h10, h11, h12, h5, hg1]
              exact hbad _ (by rw [hstep, if_pos (.inl (by omega))])
      · simp -implicitDefEqProofs (maxSteps := 1000000) (disch := omega) only [↓xsP, ↓vc_seq, xsQ, xsT, xsR, xsD, ↓reduceIte, reduceCtorEq, eq_self, ne_eq, imp_self, forall_const, Nat.reduceEqDiff, Nat.reduceAdd, Nat.reduceSub, Nat.reduceMul, Nat.reduceLT, Nat.reduceLeDiff, Nat.reduceBEq, Nat.reduceDiv, Nat.reduceMod, Int.reduceToNat, Int.reduceNeg, Int.reduceAdd, Int.reduceSub, Int.reduceMul, Int.reduceEq, Int.reduceNe, Int.reduceLT, Int.reduceLE, Int.reduceGT, Int.reduceGE, h10, h11, h12, hw]
        exact hbad _ (by rw [rstep, if_pos (.inl hw)])
    · simp -implicitDefEqProofs (maxSteps := 1000000) (disch := omega) only [↓xsP, ↓vc_seq, xsQ, xsT, xsR, xsD, ↓reduceIte, reduceCtorEq, eq_self, ne_eq, imp_self, forall_const, Nat.reduceEqDiff, Nat.reduceAdd, Nat.reduceSub, Nat.reduceMul, Nat.reduceLT, Nat.reduceLeDiff, Nat.reduceBEq, Nat.reduceDiv, Nat.reduceMod, Int.reduceToNat, Int.reduceNeg, Int.reduceAdd, Int.reduceSub, Int.reduceMul, Int.reduceEq, Int.reduceNe, Int.reduceLT, Int.reduceLE, Int.reduceGT, Int.reduceGE, h10, h11, h12]
      have hil : i = h.length := by omega
      have hP : readV h = .tup [.l (.sl (out.map Cl.row)), .l (.bool true)] := by
        simp only [readV, readP, hrun, hil, List.drop_length, rrun, Option.map_some]
      rcases hmem with ⟨rfl, h4, rfl⟩ | ⟨idO, ho, h4, rfl⟩
      · simp -implicitDefEqProofs (maxSteps := 1000000) (disch := omega) only [↓xsP, ↓vc_seq, xsQ, xsT, xsR, xsD, ↓reduceIte, reduceCtorEq, eq_self, ne_eq, imp_self, forall_const, Nat.reduceEqDiff, Nat.reduceAdd, Nat.reduceSub, Nat.reduceMul, Nat.reduceLT, Nat.reduceLeDiff, Nat.reduceBEq, Nat.reduceDiv, Nat.reduceMod, Int.reduceToNat, Int.reduceNeg, Int.reduceAdd, Int.reduceSub, Int.reduceMul, Int.reduceEq, Int.reduceNe, Int.reduceLT, Int.reduceLE, Int.reduceGT, Int.reduceGE, h4]
        refine finI_of (XFin.wk (XFin.le (le_new (Mem.le_refl _) hidm) ⟨?_, rfl⟩))
        rw [hP]
        simp [wkT, wkA, wkL]
      · simp -implicitDefEqProofs (maxSteps := 1000000) (disch := omega) only [↓xsP, ↓vc_seq, xsQ, xsT, xsR, xsD, ↓reduceIte, reduceCtorEq, eq_self, ne_eq, imp_self, forall_const, Nat.reduceEqDiff, Nat.reduceAdd, Nat.reduceSub, Nat.reduceMul, Nat.reduceLT, Nat.reduceLeDiff, Nat.reduceBEq, Nat.reduceDiv, Nat.reduceMod, Int.reduceToNat, Int.reduceNeg, Int.reduceAdd, Int.reduceSub, Int.reduceMul, Int.reduceEq, Int.reduceNe, Int.reduceLT, Int.reduceLE, Int.reduceGT, Int.reduceGE, h4]
        refine finI_of (XFin.frz idO (Mem.set_eq _ _ _) (XFin.le ?_ ⟨?_, rfl⟩))
        · refine le_new (le_new (le_new (Mem.le_refl _) hidm) ?_) ?_
          · exact fun j hj => hidm j (by omega)
          · exact fun j hj => hidm j (by omega)
        · rw [hP]
          simp [frzA, frz1, frzL, List.take_of_length_le]
end Go.X
set_option linter.unusedVariables false
set_option linter.unusedSimpArgs false
set_option maxHeartbeats 20000000
set_option maxRecDepth 100000
namespace Go.X
open Go.Proofs.Tryd (prog)

/-- The calls of a history, none if it may not be. -/
noncomputable def callsP (h : List Evt) : List Cl := (readP h).getD []
noncomputable def okP (h : List Evt) : Bool := (readP h).isSome
theorem readV_eq (h : List Evt) : readV h = .tup [.l (.sl ((callsP h).map Cl.row)), .l (.bool (okP h))] := by
  unfold readV callsP okP
  cases readP h <;> rfl

theorem pmay_spec (h : List Evt) (hs : Small h) (M : Mem) : XCalls Go.Proofs.Tryd.prog 21 [.l (.sl (h.map Evt.row))] M fun r M' => r = .l (.bool (okP h)) ∧ M' = M := by
  refine xcalls_intro (rs := [.tmp 2]) Go.Proofs.Tryd.func21 rfl (by kernel_rfl) rfl rfl (by kernel_rfl) (by simp) ?_
  simp -implicitDefEqProofs (maxSteps := 1000000) (disch := omega) only [↓xsP, ↓vc_seq, xsQ, xsT, xsR, xsD, ↓reduceIte, reduceCtorEq, eq_self, ne_eq, imp_self, forall_const, Nat.reduceEqDiff, Nat.reduceAdd, Nat.reduceSub, Nat.reduceMul, Nat.reduceLT, Nat.reduceLeDiff, Nat.reduceBEq, Nat.reduceDiv, Nat.reduceMod, Int.reduceToNat, Int.reduceNeg, Int.reduceAdd, Int.reduceSub, Int.reduceMul, Int.reduceEq, Int.reduceNe, Int.reduceLT, Int.reduceLE, Int.reduceGT, Int.reduceGE]
  refine call_of (read_spec h hs _) ?_
  simp -implicitDefEqProofs (maxSteps := 1000000) (disch := omega) only [↓xsP, ↓vc_seq, xsQ, xsT, xsR, xsD, ↓reduceIte, reduceCtorEq, eq_self, ne_eq, imp_self, forall_const, Nat.reduceEqDiff, Nat.reduceAdd, Nat.reduceSub, Nat.reduceMul, Nat.reduceLT, Nat.reduceLeDiff, Nat.reduceBEq, Nat.reduceDiv, Nat.reduceMod, Int.reduceToNat, Int.reduceNeg, Int.reduceAdd, Int.reduceSub, Int.reduceMul, Int.reduceEq, Int.reduceNe, Int.reduceLT, Int.reduceLE, Int.reduceGT, Int.reduceGE, readV_eq]
  exact fin_ok (Mem.le_refl _) ⟨rfl, rfl⟩

theorem pcalls_spec (h : List Evt) (hs : Small h) (M : Mem) : XCalls Go.Proofs.Tryd.prog 19 [.l (.sl (h.map Evt.row))] M fun r M' => r = .l (.sl ((callsP h).map Cl.row)) ∧ M' = M := by
  refine xcalls_intro (rs := [.tmp 2]) Go.Proofs.Tryd.func19 rfl (by kernel_rfl) rfl rfl (by kernel_rfl) (by simp) ?_
  simp -implicitDefEqProofs (maxSteps := 1000000) (disch := omega) only [↓xsP, ↓vc_seq, xsQ, xsT, xsR, xsD, ↓reduceIte, reduceCtorEq, eq_self, ne_eq, imp_self, forall_const, Nat.reduceEqDiff, Nat.reduceAdd, Nat.reduceSub, Nat.reduceMul, Nat.reduceLT, Nat.reduceLeDiff, Nat.reduceBEq, Nat.reduceDiv, Nat.reduceMod, Int.reduceToNat, Int.reduceNeg, Int.reduceAdd, Int.reduceSub, Int.reduceMul, Int.reduceEq, Int.reduceNe, Int.reduceLT, Int.reduceLE, Int.reduceGT, Int.reduceGE]
  refine call_of (read_spec h hs _) ?_
  simp -implicitDefEqProofs (maxSteps := 1000000) (disch := omega) only [↓xsP, ↓vc_seq, xsQ, xsT, xsR, xsD, ↓reduceIte, reduceCtorEq, eq_self, ne_eq, imp_self, forall_const, Nat.reduceEqDiff, Nat.reduceAdd, Nat.reduceSub, Nat.reduceMul, Nat.reduceLT, Nat.reduceLeDiff, Nat.reduceBEq, Nat.reduceDiv, Nat.reduceMod, Int.reduceToNat, Int.reduceNeg, Int.reduceAdd, Int.reduceSub, Int.reduceMul, Int.reduceEq, Int.reduceNe, Int.reduceLT, Int.reduceLE, Int.reduceGT, Int.reduceGE, readV_eq]
  exact fin_ok (Mem.le_refl _) ⟨rfl, rfl⟩

noncomputable def overP (h : List Evt) : Bool := okP h && (callsP h).all fun c => decide (0 ≤ c.fin)
noncomputable def soloP (h : List Evt) : Bool := okP h && bof (∀ j : Nat, 1 ≤ j → j < (callsP h).length → 0 ≤ ((callsP h).getD (j - 1) default).fin ∧ ((callsP h).getD (j - 1) default).fin < ((callsP h).getD j default).beg)
end Go.X
set_option linter.unusedVariables false
set_option linter.unusedSimpArgs false
set_option maxRecDepth 100000
namespace Go.X

theorem gd_app (l : List Cl) (c : Cl) (k : Nat) : (l ++ [c]).getD k default = if k < l.length then l.getD k default else if k = l.length then c else default := by
  simp only [List.getD_eq_getElem?_getD]
  split
  · rename_i h
    rw [List.getElem?_append_left h]
  · rename_i h
    rw [List.getElem?_append_right (by omega)]
    split
    · rename_i e
      subst e
      simp
    · rename_i e
      have : k - l.length ≠ 0 := by omega
      cases hk : k - l.length with
      | zero => omega
      | succ n => simp
theorem gd_set (l : List Cl) (c : Cl) (j k : Nat) (hj : j < l.length) : (l.set j c).getD k default = if k = j then c else l.getD k default := by
  simp only [List.getD_eq_getElem?_getD, List.getElem?_set]
  by_cases h : j = k
  · subst h
    simp [hj]
  · simp [h, Ne.symm h]

theorem rrun_app (l r : List Evt) : ∀ (i : Nat) (s : List Cl × List (Int × Int)), rrun (l ++ r) i s = (rrun l i s).bind (rrun r (i + l.length)) := by
  induction l with
  | nil => intro i s; simp [rrun]
  | cons x l ih =>
    intro i s
    simp only [List.cons_append, rrun, List.length_cons]
    cases rstep i x s with
    | none => rfl
    | some s' =>
      simp only [Option.bind_some]
      rw [ih]
      congr 2
      omega

theorem rrun_inv {h : List Evt} {Q : Nat → List Cl × List (Int × Int) → Prop} (h0 : Q 0 ([], []))
    (hs : ∀ i s s', i < h.length → Q i s → rstep i (h.getD i default) s = some s' → Q (i + 1) s') {s : List Cl × List (Int × Int)} (hr : rrun h 0 ([], []) = some s) : Q h.length s := by
  have key : ∀ (n i : Nat) (s' : List Cl × List (Int × Int)), h.length - i = n → i ≤ h.length → Q i s' → rrun (h.drop i) i s' = some s → Q h.length s := by
    intro n
    induction n with
    | zero =>
      intro i s' hn hi hq hrr
      have : i = h.length := by omega
      subst this
      simp only [List.drop_length, rrun, Option.some.injEq] at hrr
      subst hrr
      exact hq
    | succ n ih =>
      intro i s' hn hi hq hrr
      have hi' : i < h.length := by omega
      rw [List.drop_eq_getElem_cons hi'] at hrr
      have hg : h[i] = h.getD i default := by simp [List.getD_eq_getElem?_getD, hi']
      rw [hg] at hrr
      simp only [rrun] at hrr
      cases hst : rstep i (h.getD i default) s' with
      | none => rw [hst] at hrr; simp at hrr
      | some s2 =>
        rw [hst] at hrr
        simp only [Option.bind_some] at hrr
        exact ih (i + 1) s2 (by omega) (by omega) (hs i s' s2 hi' hq hst) hrr
  exact key _ 0 _ rfl (Nat.zero_le _) h0 (by simpa using hr)

/-- What the state says. -/
structure HInv (h : List Evt) (i : Nat) (s : List Cl × List (Int × Int)) : Prop where
  nod : INod s.2
  beg : ∀ k, k < s.1.length → ∃ b, b < i ∧ (s.1.getD k default).beg = (b : Int) ∧ (h.getD b default).ret = false ∧ (h.getD b default).who = (s.1.getD k default).who ∧ (h.getD b default).op = (s.1.getD k default).op
  fin : ∀ k, k < s.1.length → (s.1.getD k default).fin = -1 ∨ ∃ f : Nat, (s.1.getD k default).fin = (f : Int) ∧ (s.1.getD k default).beg < (f : Int) ∧ f < i ∧ (h.getD f default).ret = true
  rise : ∀ j k, j < k → k < s.1.length → (s.1.getD j default).beg < (s.1.getD k default).beg
  opn : ∀ k, k < s.1.length → (s.1.getD k default).fin = -1 → iget s.2 (s.1.getD k default).who = some ((k : Int) + 1)
  map : ∀ t v, iget s.2 t = some v → ∃ k : Nat, v = (k : Int) + 1 ∧ k < s.1.length ∧ (s.1.getD k default).who = t ∧ (s.1.getD k default).fin = -1
  seq : ∀ j k, j < k → k < s.1.length → (s.1.getD j default).who = (s.1.getD k default).who → 0 ≤ (s.1.getD j default).fin ∧ (s.1.getD j default).fin < (s.1.getD k default).beg
  ne : 0 < i → s.1 ≠ []
  who : ∀ k, k < s.1.length → 0 ≤ (s.1.getD k default).who ∧ (s.1.getD k default).who < 6

theorem HInv.zero (h : List Evt) : HInv h 0 ([], []) where
  nod := by simp [INod]
  beg k hk := by simp at hk
  fin k hk := by simp at hk
  rise j k hj hk := by simp at hk
  opn k hk := by simp at hk
  map t v hv := by simp [iget] at hv
  seq j k hj hk := by simp at hk
  ne hi := by omega
  who k hk := by simp at hk

theorem rstep_cases {h : List Evt} {i : Nat} {x : Evt} {out : List Cl} {ms : List (Int × Int)} (I : HInv h i (out, ms)) {s' : List Cl × List (Int × Int)} (hs : rstep i x (out, ms) = some s') :
    0 ≤ x.who ∧ x.who < 6 ∧ ((x.ret = false ∧ iget ms x.who = none ∧ mayOpB x.op = true ∧ x.ans = ans0 ∧ s' = (out ++ [⟨x.who, i, -1, x.op, ans0⟩], iput ms x.who (out.length + 1))) ∨
      (x.ret = true ∧ ∃ k : Nat, k < out.length ∧ iget ms x.who = some ((k : Int) + 1) ∧ (out.getD k default).who = x.who ∧ (out.getD k default).fin = -1 ∧ (out.getD k default).op = x.op ∧
        s' = (out.set k { out.getD k default with fin := i, ans := x.ans }, idel ms x.who))) := by
  simp only [rstep] at hs
  split at hs
  · cases hs
  · rename_i hw
    refine ⟨by omega, by omega, ?_⟩
    split at hs
    · rename_i hret
      split at hs
      · cases hs
      · rename_i hc
        simp only [not_or, Option.some.injEq] at hc hs
        refine .inl ⟨hret, ?_, by simpa using hc.2.1, by simpa using hc.2.2, hs.symm⟩
        cases hg : iget ms x.who with
        | none => rfl
        | some v =>
          obtain ⟨k, rfl, _⟩ := I.map _ _ hg
          rw [hg] at hc
          simp at hc
          omega
    · rename_i hret
      split at hs
      · cases hs
      · rename_i hc
        simp only [not_or, Option.some.injEq] at hc hs
        refine .inr ⟨by simpa using hret, ?_⟩
        cases hg : iget ms x.who with
        | none => rw [hg] at hc; simp at hc
        | some v =>
          obtain ⟨k, rfl, hk, h1, h2⟩ := I.map _ _ hg
          rw [hg] at hc hs
          have e : (((k : Int) + 1) - 1).toNat = k := by omega
          simp only [Option.getD_some, e] at hc hs
          exact ⟨k, hk, rfl, h1, h2, by simpa using hc.2, hs.symm⟩

theorem HInv.step {h : List Evt} {i : Nat} {s s' : List Cl × List (Int × Int)} (hi : i < h.length) (I : HInv h i s) (hs : rstep i (h.getD i default) s = some s') : HInv h (i + 1) s' := by
  obtain ⟨out, ms⟩ := s
  obtain ⟨w0, w1, hc⟩ := rstep_cases I hs
  generalize hx : h.getD i default = x at *
  rcases hc with ⟨hret, hnone, hop, hans, rfl⟩ | ⟨hret, k0, hk0, hg0, hwho, hfin, hop, rfl⟩
  · have I1 := I.beg; have I2 := I.fin; have I3 := I.rise; have I4 := I.opn; have I5 := I.map; have I6 := I.seq; have I7 := I.who
    simp only at I1 I2 I3 I4 I5 I6 I7
    have hbeg : ∀ k, k < out.length → (out.getD k default).beg < (i : Int) := fun k hk => by obtain ⟨b, hb, e, _⟩ := I1 k hk; omega
    exact {
      nod := iput_nod I.nod _ _
      beg := fun k hk => by
        simp only [List.length_append, List.length_cons, List.length_nil] at hk
        simp only [gd_app]
        by_cases hkl : k < out.length
        · simp only [hkl, if_true]
          obtain ⟨b, hb, r⟩ := I1 k hkl
          exact ⟨b, by omega, r⟩
        · have e : k = out.length := by omega
          simp only [e, Nat.lt_irrefl, if_false, if_true]
          exact ⟨i, by omega, rfl, by rw [hx]; exact hret, by rw [hx], by rw [hx]⟩
      fin := fun k hk => by
        simp only [List.length_append, List.length_cons, List.length_nil] at hk
        simp only [gd_app]
        by_cases hkl : k < out.length
        · simp only [hkl, if_true]
          rcases I2 k hkl with hf | ⟨f, h1, h2, h3, h4⟩
          · exact .inl hf
          · exact .inr ⟨f, h1, h2, by omega, h4⟩
        · have e : k = out.length := by omega
          simp only [e, Nat.lt_irrefl, if_false, if_true]
          exact .inl trivial
      rise := fun j k hj hk => by
        simp only [List.length_append, List.length_cons, List.length_nil] at hk
        simp only [gd_app]
        by_cases hkl : k < out.length
        · have hjl : j < out.length := by omega
          simp only [hkl, hjl, if_true]
          exact I3 j k hj hkl
        · have e : k = out.length := by omega
          have hjl : j < out.length := by omega
          simp only [hjl, e, Nat.lt_irrefl, if_false, if_true]
          exact hbeg j hjl
      opn := fun k hk => by
        simp only [List.length_append, List.length_cons, List.length_nil] at hk
        simp only [gd_app]
        by_cases hkl : k < out.length
        · simp only [hkl, if_true]
          intro hf
          rw [iget_put]
          have := I4 k hkl hf
          rw [if_neg (fun e => by rw [e, hnone] at this; cases this)]
          exact this
        · have e : k = out.length := by omega
          simp only [e, Nat.lt_irrefl, if_false, if_true]
          intro _
          rw [iget_put, if_pos rfl]
      map := fun t v hv => by
        simp only at hv
        rw [iget_put] at hv
        split at hv
        · rename_i e
          simp only [Option.some.injEq] at hv
          exact ⟨out.length, hv.symm, by simp, by simp [gd_app, e], by simp [gd_app]⟩
        · obtain ⟨k, hk1, hk2, hk3, hk4⟩ := I5 t v hv
          exact ⟨k, hk1, by simp; omega, by simp only [gd_app, hk2, if_true]; exact hk3, by simp only [gd_app, hk2, if_true]; exact hk4⟩
      seq := fun j k hj hk => by
        simp only [List.length_append, List.length_cons, List.length_nil] at hk
        simp only [gd_app]
        by_cases hkl : k < out.length
        · have hjl : j < out.length := by omega
          simp only [hkl, hjl, if_true]
          exact I6 j k hj hkl
        · have e : k = out.length := by omega
          have hjl : j < out.length := by omega
          simp only [hjl, e, Nat.lt_irrefl, if_false, if_true]
          intro hw
          rcases I2 j hjl with hf | ⟨f, h1, h2, h3, h4⟩
          · have := I4 j hjl hf
            rw [hw, hnone] at this
            cases this
          · omega
      ne := fun _ => by simp
      who := fun k hk => by
        simp only [List.length_append, List.length_cons, List.length_nil] at hk
        simp only [gd_app]
        by_cases hkl : k < out.length
        · simp only [hkl, if_true]
          exact I7 k hkl
        · have e : k = out.length := by omega
          simp only [e, Nat.lt_irrefl, if_false, if_true]
          exact ⟨w0, w1⟩ }
  · have I1 := I.beg; have I2 := I.fin; have I3 := I.rise; have I4 := I.opn; have I5 := I.map; have I6 := I.seq; have I7 := I.who
    simp only at I1 I2 I3 I4 I5 I6 I7
    have fb : ∀ k, ((out.set k0 { out.getD k0 default with fin := (i : Int), ans := x.ans }).getD k default).beg = (out.getD k default).beg := fun k => by
      rw [gd_set _ _ _ _ hk0]; split
      · rename_i e; subst e; rfl
      · rfl
    have fw : ∀ k, ((out.set k0 { out.getD k0 default with fin := (i : Int), ans := x.ans }).getD k default).who = (out.getD k default).who := fun k => by
      rw [gd_set _ _ _ _ hk0]; split
      · rename_i e; subst e; rfl
      · rfl
    have fo : ∀ k, ((out.set k0 { out.getD k0 default with fin := (i : Int), ans := x.ans }).getD k default).op = (out.getD k default).op := fun k => by
      rw [gd_set _ _ _ _ hk0]; split
      · rename_i e; subst e; rfl
      · rfl
    have ff : ∀ k, ((out.set k0 { out.getD k0 default with fin := (i : Int), ans := x.ans }).getD k default).fin = if k = k0 then (i : Int) else (out.getD k default).fin := fun k => by
      rw [gd_set _ _ _ _ hk0]; split
      · rfl
      · rfl
    exact {
      nod := idel_nod I.nod _
      beg := fun k hk => by
        simp only [List.length_set] at hk
        simp only [fb, fw, fo]
        obtain ⟨b, hb, r⟩ := I1 k hk
        exact ⟨b, by omega, r⟩
      fin := fun k hk => by
        simp only [List.length_set] at hk
        simp only [fb, ff]
        by_cases hkk : k = k0
        · simp only [hkk, if_true]
          obtain ⟨b, hb, e, _⟩ := I1 k0 hk0
          exact .inr ⟨i, rfl, by omega, by omega, by rw [hx]; exact hret⟩
        · simp only [hkk, if_false]
          rcases I2 k hk with hf | ⟨f, h1, h2, h3, h4⟩
          · exact .inl hf
          · exact .inr ⟨f, h1, h2, by omega, h4⟩
      rise := fun j k hj hk => by
        simp only [List.length_set] at hk
        simp only [fb]
        exact I3 j k hj hk
      opn := fun k hk => by
        simp only [List.length_set] at hk
        simp only [fw, ff]
        by_cases hkk : k = k0
        · simp only [hkk, if_true]
          intro e
          omega
        · simp only [hkk, if_false]
          intro hf
          have h1 := I4 k hk hf
          rw [iget_del I.nod, if_neg (fun e => by
            rw [e] at h1
            rw [hg0, Option.some.injEq] at h1
            omega)]
          exact h1
      map := fun t v hv => by
        simp only at hv
        rw [iget_del I.nod] at hv
        split at hv
        · cases hv
        · rename_i hne
          obtain ⟨k, hk1, hk2, hk3, hk4⟩ := I5 t v hv
          have hkk : k ≠ k0 := fun e => by subst e; exact hne (hk3.symm.trans hwho)
          exact ⟨k, hk1, by simp [hk2], by simp only [fw]; exact hk3, by simp only [ff, hkk, if_false]; exact hk4⟩
      seq := fun j k hj hk => by
        simp only [List.length_set] at hk
        simp only [fw, fb, ff]
        intro hw
        have h1 := I6 j k hj hk hw
        by_cases hjj : j = k0
        · subst hjj
          rw [hfin] at h1
          omega
        · simp only [hjj, if_false]
          exact h1
      ne := fun _ => by
        intro e
        have : (out.set k0 { out.getD k0 default with fin := (i : Int), ans := x.ans }).length = 0 := by simp only at e; rw [e]; rfl
        simp only [List.length_set] at this
        omega
      who := fun k hk => by
        simp only [List.length_set] at hk
        simp only [fw]
        exact I7 k hk }

theorem readP_inv {h : List Evt} {out : List Cl} (hr : readP h = some out) : ∃ ms, rrun h 0 ([], []) = some (out, ms) ∧ HInv h h.length (out, ms) := by
  simp only [readP, Option.map_eq_some_iff] at hr
  obtain ⟨⟨out', ms⟩, hrr, rfl⟩ := hr
  exact ⟨ms, hrr, rrun_inv (HInv.zero h) (fun i s s' hi I hs => I.step hi hs) hrr⟩
end Go.X
set_option linter.unusedVariables false
set_option linter.unusedSimpArgs false
set_option maxRecDepth 100000
namespace Go.X

theorem okP_inv {h : List Evt} (hok : okP h = true) : ∃ ms, rrun h 0 ([], []) = some (callsP h, ms) ∧ HInv h h.length (callsP h, ms) := by
  unfold okP at hok
  obtain ⟨out, ho⟩ := Option.isSome_iff_exists.1 hok
  have hc : callsP h = out := by rw [callsP, ho]; rfl
  rw [hc]
  exact readP_inv ho
end Go.X
set_option linter.unusedVariables false
set_option linter.unusedSimpArgs false
set_option maxHeartbeats 20000000
set_option maxRecDepth 100000
namespace Go.X
open Go.Proofs.Tryd (prog)

noncomputable def mstep (x : Evt) (s : List Bool × List Opn) : Option (List Bool × List Opn) :=
  if x.who < 0 ∨ 6 ≤ x.who ∨ x.ret ≠ s.1.getD x.who.toNat false then none
  else if (x.ret = false ∧ (mayOpB x.op = false ∨ x.ans ≠ ans0)) ∨ (x.ret = true ∧ x.op ≠ s.2.getD x.who.toNat default) then none
  else some (s.1.set x.who.toNat (!x.ret), s.2.set x.who.toNat x.op)
end Go.X
set_option linter.unusedVariables false
set_option linter.unusedSimpArgs false
set_option maxRecDepth 100000
namespace Go.X

/-- The reference's state and that of past.read. -/
structure MInv (m : List Bool × List Opn) (s : List Cl × List (Int × Int)) : Prop where
  l1 : m.1.length = 6
  l2 : m.2.length = 6
  on : ∀ t : Nat, t < 6 → m.1.getD t false = (iget s.2 (t : Int)).isSome
  op : ∀ (t k : Nat), t < 6 → iget s.2 (t : Int) = some ((k : Int) + 1) → (s.1.getD k default).op = m.2.getD t default

theorem getD_set {α : Type} (l : List α) (d : α) (j k : Nat) (x : α) (hj : j < l.length) : (l.set j x).getD k d = if k = j then x else l.getD k d := by
  simp only [List.getD_eq_getElem?_getD, List.getElem?_set]
  by_cases h : j = k
  · subst h
    simp [hj]
  · simp [h, Ne.symm h]

theorem MInv.step {h : List Evt} {i : Nat} {x : Evt} {m m' : List Bool × List Opn} {s : List Cl × List (Int × Int)} (I : HInv h i s) (J : MInv m s) (hm : mstep x m = some m') : ∃ s', rstep i x s = some s' ∧ MInv m' s' := by
  obtain ⟨out, ms⟩ := s
  obtain ⟨on, ops⟩ := m
  have J1 := J.l1; have J2 := J.l2; have J3 := J.on; have J4 := J.op; have I5 := I.map
  simp only at J1 J2 J3 J4 I5
  simp only [mstep] at hm
  split at hm
  · cases hm
  · rename_i hw
    simp only [not_or, ne_eq, Decidable.not_not] at hw
    obtain ⟨w0, w1, hon⟩ := hw
    split at hm
    · cases hm
    · rename_i hc
      simp only [Option.some.injEq] at hm
      subst hm
      obtain ⟨t, ht⟩ := Int.eq_ofNat_of_zero_le (show 0 ≤ x.who by omega)
      have ht6 : t < 6 := by omega
      have htt : x.who.toNat = t := by omega
      rw [htt] at hon hc ⊢
      rw [J3 t ht6] at hon
      simp only [rstep]
      rw [if_neg (by omega)]
      cases hret : x.ret with
      | false =>
        rw [hret] at hon hc
        have hnone : iget ms (t : Int) = none := by
          cases hg : iget ms (t : Int) with
          | none => rfl
          | some v => rw [hg] at hon; simp at hon
        rw [if_pos rfl, ht, hnone]
        rw [if_neg (by
          simp only [Option.getD_none]
          rintro (h1 | h1)
          · omega
          · exact hc (.inl ⟨rfl, h1⟩))]
        refine ⟨_, rfl, by simpa using J1, by simpa using J2, fun u hu => ?_, fun u k hu hk => ?_⟩
        · simp only [getD_set _ _ _ _ _ (by omega : t < on.length), iget_put]
          by_cases e : u = t
          · subst e; simp
          · rw [if_neg e, if_neg (by omega)]
            exact J3 u hu
        · simp only [getD_set _ _ _ _ _ (by omega : t < ops.length)]
          rw [iget_put] at hk
          by_cases e : u = t
          · subst e
            rw [if_pos rfl, Option.some.injEq] at hk
            have : k = out.length := by omega
            subst this
            simp [gd_app]
          · rw [if_neg (by omega)] at hk
            rw [if_neg e]
            obtain ⟨k', e', hk', _⟩ := I5 _ _ hk
            have : k = k' := by omega
            subst this
            rw [gd_app, if_pos hk']
            exact J4 u k hu hk
      | true =>
        rw [hret] at hon hc
        obtain ⟨v, hv⟩ : ∃ v, iget ms (t : Int) = some v := by
          cases hg : iget ms (t : Int) with
          | none => rw [hg] at hon; simp at hon
          | some v => exact ⟨v, rfl⟩
        obtain ⟨k0, rfl, hk0, hwho, hfin⟩ := I5 _ _ hv
        have hop := J4 t k0 ht6 hv
        have e1 : ((k0 : Int) + 1 - 1).toNat = k0 := by omega
        rw [if_neg (by simp), ht, hv]
        simp only [Option.getD_some, e1]
        rw [if_neg (by
          rintro (h1 | h1)
          · omega
          · exact hc (.inr ⟨rfl, fun e => h1 (by rw [hop, e])⟩))]
        refine ⟨_, rfl, by simpa using J1, by simpa using J2, fun u hu => ?_, fun u k hu hk => ?_⟩
        · simp only [getD_set _ _ _ _ _ (by omega : t < on.length), iget_del I.nod]
          by_cases e : u = t
          · subst e; simp
          · rw [if_neg e, if_neg (by omega)]
            exact J3 u hu
        · simp only at hk
          rw [iget_del I.nod] at hk
          by_cases e : u = t
          · subst e
            rw [if_pos rfl] at hk
            cases hk
          · rw [if_neg (by omega)] at hk
            simp only [getD_set _ _ _ _ _ (by omega : t < ops.length)]
            rw [if_neg e, gd_set _ _ _ _ hk0]
            have hkk : k ≠ k0 := fun e' => by
              subst e'
              obtain ⟨k', e2, _, hw2, _⟩ := I5 _ _ hk
              have : k' = k := by omega
              subst this
              rw [hwho] at hw2
              omega
            rw [if_neg hkk]
            exact J4 u k hu hk

/-- From one moment on. -/
structure Ext (k : Nat) (a b : List Cl) : Prop where
  len : a.length ≤ b.length
  beg : ∀ i, i < a.length → (b.getD i default).beg = (a.getD i default).beg
  op : ∀ i, i < a.length → (b.getD i default).op = (a.getD i default).op
  fin : ∀ i, i < a.length → (b.getD i default).fin = (a.getD i default).fin ∨ ((a.getD i default).fin = -1 ∧ (k : Int) ≤ (b.getD i default).fin)
theorem Ext.refl (k : Nat) (a : List Cl) : Ext k a a := ⟨Nat.le_refl _, fun _ _ => rfl, fun _ _ => rfl, fun _ _ => .inl rfl⟩
theorem Ext.trans {k : Nat} {a b c : List Cl} (h : Ext k a b) (h' : Ext k b c) : Ext k a c where
  len := Nat.le_trans h.len h'.len
  beg i hi := (h'.beg i (Nat.lt_of_lt_of_le hi h.len)).trans (h.beg i hi)
  op i hi := (h'.op i (Nat.lt_of_lt_of_le hi h.len)).trans (h.op i hi)
  fin i hi := by
    rcases h.fin i hi with h1 | ⟨h1, h2⟩ <;> rcases h'.fin i (Nat.lt_of_lt_of_le hi h.len) with h3 | ⟨h3, h4⟩
    · exact .inl (h3.trans h1)
    · exact .inr ⟨by rw [← h1]; exact h3, h4⟩
    · exact .inr ⟨h1, by rw [h3]; exact h2⟩
    · exact .inr ⟨h1, h4⟩
end Go.X
set_option linter.unusedVariables false
set_option linter.unusedSimpArgs false
set_option maxHeartbeats 20000000
set_option maxRecDepth 100000
namespace Go.X
open Go.Proofs.Tryd (prog)

noncomputable def namedB (C : List Cl) (l : List Int) : Bool := bof ((∀ x ∈ l, 0 ≤ x ∧ x < C.length) ∧ l.Nodup ∧ ∀ j, j < C.length → 0 ≤ (C.getD j default).fin → ((j : Int) ∈ l ↔ (C.getD j default).ans.err = 0))
theorem take_sc {α : Type} (l : List α) (d : α) {i : Nat} (hi : i < l.length) : l.take (i + 1) = l.take i ++ [l.getD i d] := by
  rw [List.take_add_one, List.getD_eq_getElem?_getD, List.getElem?_eq_getElem hi]
  rfl
theorem getD_mem' {α : Type} (l : List α) (d : α) {i : Nat} (hi : i < l.length) : l.getD i d ∈ l := by
  rw [List.getD_eq_getElem?_getD, List.getElem?_eq_getElem hi]
  exact List.getElem_mem hi
def befP (c d : Cl) : Prop := 0 ≤ c.fin ∧ c.fin < d.beg
def clAt (C : List Cl) (i : Int) : Cl := C.getD i.toNat default
noncomputable def timelyB (C : List Cl) (l : List Int) : Bool := bof (∀ a b, a < b → b < l.length → ¬ befP (clAt C (l.getD b default)) (clAt C (l.getD a default)))
theorem bef_dec (c d : Cl) : (decide (0 ≤ c.fin) && decide (c.fin < d.beg)) = bof (befP c d) := by
  rw [Bool.eq_iff_iff, Bool.and_eq_true, decide_eq_true_eq, decide_eq_true_eq, bof_iff]
  exact Iff.rfl
end Go.X
set_option linter.unusedVariables false
set_option linter.unusedSimpArgs false
set_option maxHeartbeats 20000000
set_option maxRecDepth 100000
namespace Go.X
open Go.Proofs.Tryd (prog)

/-- What may be said when a call is over, once the ghost has been turned. -/
theorem XCalls.fin {P : Program} {f : FuncId} {args : List AV} {M : Mem} {K K' : AV → Mem → Prop} (h : XCalls P f args M K) (hk : ∀ v M', K v M' → XFin P v M' K') : XCalls P f args M K' := by
  refine ⟨h.1, fun g w vs hP hA hR => ?_⟩
  refine (h.2 g w vs hP hA hR).mono ?_
  rintro e w' ⟨rv, v, g', M', rfl, hK, hev, hc, hR'⟩
  obtain ⟨g2, v', M2, h1, h2, h3, h4⟩ := hk v M' hK g' w' rv (hev.P.trans hP) hc hR'
  exact ⟨rv, v', g2, M2, rfl, h1, hev.trans h2, h3, h4⟩

/-- A slice of pairs, kept or of a live block. -/
def SrcIs (M : Mem) (s : Lf) (l : List Pr) : Prop := s = .sl (l.map Pr.row) ∨ ∃ id keep, s = .ms id 0 l.length ∧ M id = some (.cells 32 (l.map Pr.row) keep)
theorem SrcIs.le {M M' : Mem} {s : Lf} {l : List Pr} (h : SrcIs M s l) (hle : M.le M') : SrcIs M' s l := by
  rcases h with h | ⟨id, keep, h, h2⟩
  · exact .inl h
  · exact .inr ⟨id, keep, h, hle _ _ h2⟩

theorem findClo_spec (p : Pr) (id : Nat) (k : Int) (M : Mem) {keep : Nat} (hM : M id = some (.cells 3 [[.int .i64 k]] keep)) :
    XCalls Go.Proofs.Tryd.prog 74 [.agg p.row, .l (.ptr id 0 0)] M fun r M' => r = .l (.bool (decide (p.key = k))) ∧ M' = M := by
  refine xcalls_intro (rs := [.tmp 3]) Go.Proofs.Tryd.func74 rfl (by kernel_rfl) rfl rfl (by kernel_rfl) (by simp) ?_
  simp -implicitDefEqProofs (maxSteps := 1000000) (disch := omega) only [↓xsP, ↓vc_seq, xsQ, xsT, xsR, xsD, ↓reduceIte, reduceCtorEq, eq_self, ne_eq, imp_self, forall_const, Nat.reduceEqDiff, Nat.reduceAdd, Nat.reduceSub, Nat.reduceMul, Nat.reduceLT, Nat.reduceLeDiff, Nat.reduceBEq, Nat.reduceDiv, Nat.reduceMod, Int.reduceToNat, Int.reduceNeg, Int.reduceAdd, Int.reduceSub, Int.reduceMul, Int.reduceEq, Int.reduceNe, Int.reduceLT, Int.reduceLE, Int.reduceGT, Int.reduceGE]
  refine newI_intro fun id2 hid2 => ?_
  have hlt : id < id2 := lt_of_bnd hid2 hM
  simp -implicitDefEqProofs (maxSteps := 1000000) (disch := omega) only [↓xsP, ↓vc_seq, xsQ, xsT, xsR, xsD, ↓reduceIte, reduceCtorEq, eq_self, ne_eq, imp_self, forall_const, Nat.reduceEqDiff, Nat.reduceAdd, Nat.reduceSub, Nat.reduceMul, Nat.reduceLT, Nat.reduceLeDiff, Nat.reduceBEq, Nat.reduceDiv, Nat.reduceMod, Int.reduceToNat, Int.reduceNeg, Int.reduceAdd, Int.reduceSub, Int.reduceMul, Int.reduceEq, Int.reduceNe, Int.reduceLT, Int.reduceLE, Int.reduceGT, Int.reduceGE, hM]
  exact fin_ok (le_new (Mem.le_refl _) hid2) ⟨rfl, rfl⟩

theorem withinClo_spec (p : Pr) (id id' : Nat) (lo hi : Int) (M : Mem) {keep keep' : Nat} (hM : M id = some (.cells 3 [[.int .i64 lo]] keep)) (hM' : M id' = some (.cells 3 [[.int .i64 hi]] keep')) :
    XCalls Go.Proofs.Tryd.prog 65 [.agg p.row, .l (.ptr id 0 0), .l (.ptr id' 0 0)] M fun r M' => r = .l (.bool (decide (p.key < lo) || decide (p.key > hi))) ∧ M' = M := by
  refine xcalls_intro (rs := [.tmp 4]) Go.Proofs.Tryd.func65 rfl (by kernel_rfl) rfl rfl (by kernel_rfl) (by simp) ?_
  simp -implicitDefEqProofs (maxSteps := 1000000) (disch := omega) only [↓xsP, ↓vc_seq, xsQ, xsT, xsR, xsD, ↓reduceIte, reduceCtorEq, eq_self, ne_eq, imp_self, forall_const, Nat.reduceEqDiff, Nat.reduceAdd, Nat.reduceSub, Nat.reduceMul, Nat.reduceLT, Nat.reduceLeDiff, Nat.reduceBEq, Nat.reduceDiv, Nat.reduceMod, Int.reduceToNat, Int.reduceNeg, Int.reduceAdd, Int.reduceSub, Int.reduceMul, Int.reduceEq, Int.reduceNe, Int.reduceLT, Int.reduceLE, Int.reduceGT, Int.reduceGE]
  refine newI_intro fun id2 hid2 => ?_
  have hlt : id < id2 := lt_of_bnd hid2 hM
  have hlt' : id' < id2 := lt_of_bnd hid2 hM'
  simp -implicitDefEqProofs (maxSteps := 1000000) (disch := omega) only [↓xsP, ↓vc_seq, xsQ, xsT, xsR, xsD, ↓reduceIte, reduceCtorEq, eq_self, ne_eq, imp_self, forall_const, Nat.reduceEqDiff, Nat.reduceAdd, Nat.reduceSub, Nat.reduceMul, Nat.reduceLT, Nat.reduceLeDiff, Nat.reduceBEq, Nat.reduceDiv, Nat.reduceMod, Int.reduceToNat, Int.reduceNeg, Int.reduceAdd, Int.reduceSub, Int.reduceMul, Int.reduceEq, Int.reduceNe, Int.reduceLT, Int.reduceLE, Int.reduceGT, Int.reduceGE, hM, hM']
  refine gI_prop_f (fun h => ?_) (fun h => ?_)
  · simp -implicitDefEqProofs (maxSteps := 1000000) (disch := omega) only [↓xsP, ↓vc_seq, xsQ, xsT, xsR, xsD, ↓reduceIte, reduceCtorEq, eq_self, ne_eq, imp_self, forall_const, Nat.reduceEqDiff, Nat.reduceAdd, Nat.reduceSub, Nat.reduceMul, Nat.reduceLT, Nat.reduceLeDiff, Nat.reduceBEq, Nat.reduceDiv, Nat.reduceMod, Int.reduceToNat, Int.reduceNeg, Int.reduceAdd, Int.reduceSub, Int.reduceMul, Int.reduceEq, Int.reduceNe, Int.reduceLT, Int.reduceLE, Int.reduceGT, Int.reduceGE, hM, hM', h]
    refine fin_ok (le_new (Mem.le_refl _) hid2) ⟨?_, rfl⟩
    simp [h]
  · simp -implicitDefEqProofs (maxSteps := 1000000) (disch := omega) only [↓xsP, ↓vc_seq, xsQ, xsT, xsR, xsD, ↓reduceIte, reduceCtorEq, eq_self, ne_eq, imp_self, forall_const, Nat.reduceEqDiff, Nat.reduceAdd, Nat.reduceSub, Nat.reduceMul, Nat.reduceLT, Nat.reduceLeDiff, Nat.reduceBEq, Nat.reduceDiv, Nat.reduceMod, Int.reduceToNat, Int.reduceNeg, Int.reduceAdd, Int.reduceSub, Int.reduceMul, Int.reduceEq, Int.reduceNe, Int.reduceLT, Int.reduceLE, Int.reduceGT, Int.reduceGE, hM, hM', h]
    refine fin_ok (le_new (Mem.le_refl _) hid2) ⟨?_, rfl⟩
    simp [h]

/-- The first place from i on of what is looked for; -1: none. -/
def pidx (q : Pr → Bool) : List Pr → Nat → Int
  | [], _ => -1
  | p :: r, i => if q p then i else pidx q r (i + 1)

theorem index_spec (l : List Pr) (hl : l.length ≤ 140737488355328) (s : Lf) (M : Mem) (hs : SrcIs M s l) (f : FuncId) (caps : List Lf) (q : Pr → Bool) (hq : ∀ p, XCalls Go.Proofs.Tryd.prog f ([.agg p.row] ++ caps.map .l) M fun r M' => r = .l (.bool (q p)) ∧ M' = M) :
    XCalls Go.Proofs.Tryd.prog 73 [.l s, .l (.clo f caps)] M fun r M' => r = .l (.int .i64 (pidx q l 0)) ∧ M' = M := by
  refine xcalls_intro (rs := [.tmp 4]) Go.Proofs.Tryd.func73 rfl (by kernel_rfl) rfl rfl (by kernel_rfl) (by simp) ?_
  have hstep : ∀ i, i < l.length → l.drop i = l.getD i default :: l.drop (i + 1) := fun i hi => by
    rw [List.drop_eq_getElem_cons hi, List.getD_eq_getElem?_getD, List.getElem?_eq_getElem hi, Option.getD_some]
  have inv0 : ∀ i, (i : Nat) = 0 → pidx q l 0 = pidx q (l.drop i) i := fun i h => by subst h; rfl
  rcases hs with rfl | ⟨id, keep, rfl, hM⟩
  · simp -implicitDefEqProofs (maxSteps := 1000000) (disch := omega) only [↓xsP, ↓vc_seq, xsQ, xsT, xsR, xsD, ↓reduceIte, reduceCtorEq, eq_self, ne_eq, imp_self, forall_const, Nat.reduceEqDiff, Nat.reduceAdd, Nat.reduceSub, Nat.reduceMul, Nat.reduceLT, Nat.reduceLeDiff, Nat.reduceBEq, Nat.reduceDiv, Nat.reduceMod, Int.reduceToNat, Int.reduceNeg, Int.reduceAdd, Int.reduceSub, Int.reduceMul, Int.reduceEq, Int.reduceNe, Int.reduceLT, Int.reduceLE, Int.reduceGT, Int.reduceGE]
    refine loopI_of (xloop (by kernel_rfl) (fun k fr M' => ∃ i : Nat, i ≤ l.length ∧ k = l.length - i ∧ fr 0 = .l (.sl (l.map Pr.row)) ∧ fr 1 = .l (.clo f caps) ∧ fr 7 = .l (.int .i64 l.length) ∧ fr 8 = .l (.int .i64 i) ∧ M' = M ∧ pidx q l 0 = pidx q (l.drop i) i) l.length ?_ ?_)
    · exact ⟨0, Nat.zero_le _, rfl, by simp -implicitDefEqProofs (maxSteps := 1000000) (disch := omega) only [↓xsP, ↓vc_seq, xsQ, xsT, xsR, xsD, ↓reduceIte, reduceCtorEq, eq_self, ne_eq, imp_self, forall_const, Nat.reduceEqDiff, Nat.reduceAdd, Nat.reduceSub, Nat.reduceMul, Nat.reduceLT, Nat.reduceLeDiff, Nat.reduceBEq, Nat.reduceDiv, Nat.reduceMod, Int.reduceToNat, Int.reduceNeg, Int.reduceAdd, Int.reduceSub, Int.reduceMul, Int.reduceEq, Int.reduceNe, Int.reduceLT, Int.reduceLE, Int.reduceGT, Int.reduceGE], by simp -implicitDefEqProofs (maxSteps := 1000000) (disch := omega) only [↓xsP, ↓vc_seq, xsQ, xsT, xsR, xsD, ↓reduceIte, reduceCtorEq, eq_self, ne_eq, imp_self, forall_const, Nat.reduceEqDiff, Nat.reduceAdd, Nat.reduceSub, Nat.reduceMul, Nat.reduceLT, Nat.reduceLeDiff, Nat.reduceBEq, Nat.reduceDiv, Nat.reduceMod, Int.reduceToNat, Int.reduceNeg, Int.reduceAdd, Int.reduceSub, Int.reduceMul, Int.reduceEq, Int.reduceNe, Int.reduceLT, Int.reduceLE, Int.reduceGT, Int.reduceGE], by simp -implicitDefEqProofs (maxSteps := 1000000) (disch := omega) only [↓xsP, ↓vc_seq, xsQ, xsT, xsR, xsD, ↓reduceIte, reduceCtorEq, eq_self, ne_eq, imp_self, forall_const, Nat.reduceEqDiff, Nat.reduceAdd, Nat.reduceSub, Nat.reduceMul, Nat.reduceLT, Nat.reduceLeDiff, Nat.reduceBEq, Nat.reduceDiv, Nat.reduceMod, Int.reduceToNat, Int.reduceNeg, Int.reduceAdd, Int.reduceSub, Int.reduceMul, Int.reduceEq, Int.reduceNe, Int.reduceLT, Int.reduceLE, Int.reduceGT, Int.reduceGE], by simp -implicitDefEqProofs (maxSteps := 1000000) (disch := omega) only [↓xsP, ↓vc_seq, xsQ, xsT, xsR, xsD, ↓reduceIte, reduceCtorEq, eq_self, ne_eq, imp_self, forall_const, Nat.reduceEqDiff, Nat.reduceAdd, Nat.reduceSub, Nat.reduceMul, Nat.reduceLT, Nat.reduceLeDiff, Nat.reduceBEq, Nat.reduceDiv, Nat.reduceMod, Int.reduceToNat, Int.reduceNeg, Int.reduceAdd, Int.reduceSub, Int.reduceMul, Int.reduceEq, Int.reduceNe, Int.reduceLT, Int.reduceLE, Int.reduceGT, Int.reduceGE, Int.cast_ofNat_Int], rfl, inv0 0 rfl⟩
    · rintro k fr M' ⟨i, hi, rfl, h0, h1, h7, h8, rfl, hinv⟩
      simp -implicitDefEqProofs (maxSteps := 1000000) (disch := omega) only [↓xsP, ↓vc_seq, xsQ, xsT, xsR, xsD, ↓reduceIte, reduceCtorEq, eq_self, ne_eq, imp_self, forall_const, Nat.reduceEqDiff, Nat.reduceAdd, Nat.reduceSub, Nat.reduceMul, Nat.reduceLT, Nat.reduceLeDiff, Nat.reduceBEq, Nat.reduceDiv, Nat.reduceMod, Int.reduceToNat, Int.reduceNeg, Int.reduceAdd, Int.reduceSub, Int.reduceMul, Int.reduceEq, Int.reduceNe, Int.reduceLT, Int.reduceLE, Int.reduceGT, Int.reduceGE, h0, h1, h7, h8]
      refine condI_prop (fun hlt => ?_) (fun hlt => ?_)
      · simp -implicitDefEqProofs (maxSteps := 1000000) (disch := omega) only [↓xsP, ↓vc_seq, xsQ, xsT, xsR, xsD, ↓reduceIte, reduceCtorEq, eq_self, ne_eq, imp_self, forall_const, Nat.reduceEqDiff, Nat.reduceAdd, Nat.reduceSub, Nat.reduceMul, Nat.reduceLT, Nat.reduceLeDiff, Nat.reduceBEq, Nat.reduceDiv, Nat.reduceMod, Int.reduceToNat, Int.reduceNeg, Int.reduceAdd, Int.reduceSub, Int.reduceMul, Int.reduceEq, Int.reduceNe, Int.reduceLT, Int.reduceLE, Int.reduceGT, Int.reduceGE, h0, h1, h7, h8]
        rw [hstep i (by omega), pidx] at hinv
        refine call_of (hq (l.getD i default)) ?_
        cases hb : q (l.getD i default) with
        | true =>
          rw [hb, if_pos rfl] at hinv
          simp -implicitDefEqProofs (maxSteps := 1000000) (disch := omega) only [↓xsP, ↓vc_seq, xsQ, xsT, xsR, xsD, ↓reduceIte, reduceCtorEq, eq_self, ne_eq, imp_self, forall_const, Nat.reduceEqDiff, Nat.reduceAdd, Nat.reduceSub, Nat.reduceMul, Nat.reduceLT, Nat.reduceLeDiff, Nat.reduceBEq, Nat.reduceDiv, Nat.reduceMod, Int.reduceToNat, Int.reduceNeg, Int.reduceAdd, Int.reduceSub, Int.reduceMul, Int.reduceEq, Int.reduceNe, Int.reduceLT, Int.reduceLE, Int.reduceGT, Int.reduceGE, h0, h1, h7, h8]
          exact fin_ok (Mem.le_refl _) ⟨by rw [hinv], rfl⟩
        | false =>
          rw [hb] at hinv
          simp -implicitDefEqProofs (maxSteps := 1000000) (disch := omega) only [↓xsP, ↓vc_seq, xsQ, xsT, xsR, xsD, ↓reduceIte, reduceCtorEq, eq_self, ne_eq, imp_self, forall_const, Nat.reduceEqDiff, Nat.reduceAdd, Nat.reduceSub, Nat.reduceMul, Nat.reduceLT, Nat.reduceLeDiff, Nat.reduceBEq, Nat.reduceDiv, Nat.reduceMod, Int.reduceToNat, Int.reduceNeg, Int.reduceAdd, Int.reduceSub, Int.reduceMul, Int.reduceEq, Int.reduceNe, Int.reduceLT, Int.reduceLE, Int.reduceGT, Int.reduceGE, h0, h1, h7, h8]
          exact ⟨l.length - (i + 1), M', by omega, Mem.le_refl _, i + 1, by omega, rfl, by simp, rfl, by simpa using hinv⟩
      · simp -implicitDefEqProofs (maxSteps := 1000000) (disch := omega) only [↓xsP, ↓vc_seq, xsQ, xsT, xsR, xsD, ↓reduceIte, reduceCtorEq, eq_self, ne_eq, imp_self, forall_const, Nat.reduceEqDiff, Nat.reduceAdd, Nat.reduceSub, Nat.reduceMul, Nat.reduceLT, Nat.reduceLeDiff, Nat.reduceBEq, Nat.reduceDiv, Nat.reduceMod, Int.reduceToNat, Int.reduceNeg, Int.reduceAdd, Int.reduceSub, Int.reduceMul, Int.reduceEq, Int.reduceNe, Int.reduceLT, Int.reduceLE, Int.reduceGT, Int.reduceGE, h0, h1, h7, h8]
        have hil : i = l.length := by omega
        rw [hil, List.drop_length, pidx] at hinv
        exact fin_ok (Mem.le_refl _) ⟨by rw [hinv], rfl⟩
  · simp -implicitDefEqProofs (maxSteps := 1000000) (disch := omega) only [↓xsP, ↓vc_seq, xsQ, xsT, xsR, xsD, ↓reduceIte, reduceCtorEq, eq_self, ne_eq, imp_self, forall_const, Nat.reduceEqDiff, Nat.reduceAdd, Nat.reduceSub, Nat.reduceMul, Nat.reduceLT, Nat.reduceLeDiff, Nat.reduceBEq, Nat.reduceDiv, Nat.reduceMod, Int.reduceToNat, Int.reduceNeg, Int.reduceAdd, Int.reduceSub, Int.reduceMul, Int.reduceEq, Int.reduceNe, Int.reduceLT, Int.reduceLE, Int.reduceGT, Int.reduceGE]
    refine loopI_of (xloop (by kernel_rfl) (fun k fr M' => ∃ i : Nat, i ≤ l.length ∧ k = l.length - i ∧ fr 0 = .l (.ms id 0 l.length) ∧ fr 1 = .l (.clo f caps) ∧ fr 7 = .l (.int .i64 l.length) ∧ fr 8 = .l (.int .i64 i) ∧ M' = M ∧ pidx q l 0 = pidx q (l.drop i) i) l.length ?_ ?_)
    · exact ⟨0, Nat.zero_le _, rfl, by simp -implicitDefEqProofs (maxSteps := 1000000) (disch := omega) only [↓xsP, ↓vc_seq, xsQ, xsT, xsR, xsD, ↓reduceIte, reduceCtorEq, eq_self, ne_eq, imp_self, forall_const, Nat.reduceEqDiff, Nat.reduceAdd, Nat.reduceSub, Nat.reduceMul, Nat.reduceLT, Nat.reduceLeDiff, Nat.reduceBEq, Nat.reduceDiv, Nat.reduceMod, Int.reduceToNat, Int.reduceNeg, Int.reduceAdd, Int.reduceSub, Int.reduceMul, Int.reduceEq, Int.reduceNe, Int.reduceLT, Int.reduceLE, Int.reduceGT, Int.reduceGE], by simp -implicitDefEqProofs (maxSteps := 1000000) (disch := omega) only [↓xsP, ↓vc_seq, xsQ, xsT, xsR, xsD, ↓reduceIte, reduceCtorEq, eq_self, ne_eq, imp_self, forall_const, Nat.reduceEqDiff, Nat.reduceAdd, Nat.reduceSub, Nat.reduceMul, Nat.reduceLT, Nat.reduceLeDiff, Nat.reduceBEq, Nat.reduceDiv, Nat.reduceMod, Int.reduceToNat, Int.reduceNeg, Int.reduceAdd, Int.reduceSub, Int.reduceMul, Int.reduceEq, Int.reduceNe, Int.reduceLT, Int.reduceLE, Int.reduceGT, Int.reduceGE], by simp -implicitDefEqProofs (maxSteps := 1000000) (disch := omega) only [↓xsP, ↓vc_seq, xsQ, xsT, xsR, xsD, ↓reduceIte, reduceCtorEq, eq_self, ne_eq, imp_self, forall_const, Nat.reduceEqDiff, Nat.reduceAdd, Nat.reduceSub, Nat.reduceMul, Nat.reduceLT, Nat.reduceLeDiff, Nat.reduceBEq, Nat.reduceDiv, Nat.reduceMod, Int.reduceToNat, Int.reduceNeg, Int.reduceAdd, Int.reduceSub, Int.reduceMul, Int.reduceEq, Int.reduceNe, Int.reduceLT, Int.reduceLE, Int.reduceGT, Int.reduceGE], by simp -implicitDefEqProofs (maxSteps := 1000000) (disch := omega) only [↓xsP, ↓vc_seq, xsQ, xsT, xsR, xsD, ↓reduceIte, reduceCtorEq, eq_self, ne_eq, imp_self, forall_const, Nat.reduceEqDiff, Nat.reduceAdd, Nat.reduceSub, Nat.reduceMul, Nat.reduceLT, Nat.reduceLeDiff, Nat.reduceBEq, Nat.reduceDiv, Nat.reduceMod, Int.reduceToNat, Int.reduceNeg, Int.reduceAdd, Int.reduceSub, Int.reduceMul, Int.reduceEq, Int.reduceNe, Int.reduceLT, Int.reduceLE, Int.reduceGT, Int.reduceGE, Int.cast_ofNat_Int], rfl, inv0 0 rfl⟩
    · rintro k fr M' ⟨i, hi, rfl, h0, h1, h7, h8, rfl, hinv⟩
      simp -implicitDefEqProofs (maxSteps := 1000000) (disch := omega) only [↓xsP, ↓vc_seq, xsQ, xsT, xsR, xsD, ↓reduceIte, reduceCtorEq, eq_self, ne_eq, imp_self, forall_const, Nat.reduceEqDiff, Nat.reduceAdd, Nat.reduceSub, Nat.reduceMul, Nat.reduceLT, Nat.reduceLeDiff, Nat.reduceBEq, Nat.reduceDiv, Nat.reduceMod, Int.reduceToNat, Int.reduceNeg, Int.reduceAdd, Int.reduceSub, Int.reduceMul, Int.reduceEq, Int.reduceNe, Int.reduceLT, Int.reduceLE, Int.reduceGT, Int.reduceGE, h0, h1, h7, h8]
      refine condI_prop (fun hlt => ?_) (fun hlt => ?_)
      · simp -implicitDefEqProofs (maxSteps := 1000000) (disch := omega) only [↓xsP, ↓vc_seq, xsQ, xsT, xsR, xsD, ↓reduceIte, reduceCtorEq, eq_self, ne_eq, imp_self, forall_const, Nat.reduceEqDiff, Nat.reduceAdd, Nat.reduceSub, Nat.reduceMul, Nat.reduceLT, Nat.reduceLeDiff, Nat.reduceBEq, Nat.reduceDiv, Nat.reduceMod, Int.reduceToNat, Int.reduceNeg, Int.reduceAdd, Int.reduceSub, Int.reduceMul, Int.reduceEq, Int.reduceNe, Int.reduceLT, Int.reduceLE, Int.reduceGT, Int.reduceGE, h0, h1, h7, h8, hM]
        rw [hstep i (by omega), pidx] at hinv
        refine call_of (hq (l.getD i default)) ?_
        cases hb : q (l.getD i default) with
        | true =>
          rw [hb, if_pos rfl] at hinv
          simp -implicitDefEqProofs (maxSteps := 1000000) (disch := omega) only [↓xsP, ↓vc_seq, xsQ, xsT, xsR, xsD, ↓reduceIte, reduceCtorEq, eq_self, ne_eq, imp_self, forall_const, Nat.reduceEqDiff, Nat.reduceAdd, Nat.reduceSub, Nat.reduceMul, Nat.reduceLT, Nat.reduceLeDiff, Nat.reduceBEq, Nat.reduceDiv, Nat.reduceMod, Int.reduceToNat, Int.reduceNeg, Int.reduceAdd, Int.reduceSub, Int.reduceMul, Int.reduceEq, Int.reduceNe, Int.reduceLT, Int.reduceLE, Int.reduceGT, Int.reduceGE, h0, h1, h7, h8]
          exact fin_ok (Mem.le_refl _) ⟨by rw [hinv], rfl⟩
        | false =>
          rw [hb] at hinv
          simp -implicitDefEqProofs (maxSteps := 1000000) (disch := omega) only [↓xsP, ↓vc_seq, xsQ, xsT, xsR, xsD, ↓reduceIte, reduceCtorEq, eq_self, ne_eq, imp_self, forall_const, Nat.reduceEqDiff, Nat.reduceAdd, Nat.reduceSub, Nat.reduceMul, Nat.reduceLT, Nat.reduceLeDiff, Nat.reduceBEq, Nat.reduceDiv, Nat.reduceMod, Int.reduceToNat, Int.reduceNeg, Int.reduceAdd, Int.reduceSub, Int.reduceMul, Int.reduceEq, Int.reduceNe, Int.reduceLT, Int.reduceLE, Int.reduceGT, Int.reduceGE, h0, h1, h7, h8]
          exact ⟨l.length - (i + 1), M', by omega, Mem.le_refl _, i + 1, by omega, rfl, by simp, rfl, by simpa using hinv⟩
      · simp -implicitDefEqProofs (maxSteps := 1000000) (disch := omega) only [↓xsP, ↓vc_seq, xsQ, xsT, xsR, xsD, ↓reduceIte, reduceCtorEq, eq_self, ne_eq, imp_self, forall_const, Nat.reduceEqDiff, Nat.reduceAdd, Nat.reduceSub, Nat.reduceMul, Nat.reduceLT, Nat.reduceLeDiff, Nat.reduceBEq, Nat.reduceDiv, Nat.reduceMod, Int.reduceToNat, Int.reduceNeg, Int.reduceAdd, Int.reduceSub, Int.reduceMul, Int.reduceEq, Int.reduceNe, Int.reduceLT, Int.reduceLE, Int.reduceGT, Int.reduceGE, h0, h1, h7, h8]
        have hil : i = l.length := by omega
        rw [hil, List.drop_length, pidx] at hinv
        exact fin_ok (Mem.le_refl _) ⟨by rw [hinv], rfl⟩

theorem find_spec (l : List Pr) (hl : l.length ≤ 140737488355328) (k : Int) (M : Mem) :
    XCalls Go.Proofs.Tryd.prog 66 [.l (.sl (l.map Pr.row)), .l (.int .i64 k)] M fun r M' => r = .l (.int .i64 (pidx (fun p => decide (p.key = k)) l 0)) ∧ M' = M := by
  refine xcalls_intro (rs := [.tmp 4]) Go.Proofs.Tryd.func66 rfl (by kernel_rfl) rfl rfl (by kernel_rfl) (by simp) ?_
  simp -implicitDefEqProofs (maxSteps := 1000000) (disch := omega) only [↓xsP, ↓vc_seq, xsQ, xsT, xsR, xsD, ↓reduceIte, reduceCtorEq, eq_self, ne_eq, imp_self, forall_const, Nat.reduceEqDiff, Nat.reduceAdd, Nat.reduceSub, Nat.reduceMul, Nat.reduceLT, Nat.reduceLeDiff, Nat.reduceBEq, Nat.reduceDiv, Nat.reduceMod, Int.reduceToNat, Int.reduceNeg, Int.reduceAdd, Int.reduceSub, Int.reduceMul, Int.reduceEq, Int.reduceNe, Int.reduceLT, Int.reduceLE, Int.reduceGT, Int.reduceGE]
  refine newI_intro fun id hid => ?_
  simp -implicitDefEqProofs (maxSteps := 1000000) (disch := omega) only [↓xsP, ↓vc_seq, xsQ, xsT, xsR, xsD, ↓reduceIte, reduceCtorEq, eq_self, ne_eq, imp_self, forall_const, Nat.reduceEqDiff, Nat.reduceAdd, Nat.reduceSub, Nat.reduceMul, Nat.reduceLT, Nat.reduceLeDiff, Nat.reduceBEq, Nat.reduceDiv, Nat.reduceMod, Int.reduceToNat, Int.reduceNeg, Int.reduceAdd, Int.reduceSub, Int.reduceMul, Int.reduceEq, Int.reduceNe, Int.reduceLT, Int.reduceLE, Int.reduceGT, Int.reduceGE]
  refine call_of (index_spec l hl _ _ (.inl rfl) _ _ (fun p => decide (p.key = k)) (fun p => findClo_spec p id k _ (Mem.set_eq _ _ _))) ?_
  simp -implicitDefEqProofs (maxSteps := 1000000) (disch := omega) only [↓xsP, ↓vc_seq, xsQ, xsT, xsR, xsD, ↓reduceIte, reduceCtorEq, eq_self, ne_eq, imp_self, forall_const, Nat.reduceEqDiff, Nat.reduceAdd, Nat.reduceSub, Nat.reduceMul, Nat.reduceLT, Nat.reduceLeDiff, Nat.reduceBEq, Nat.reduceDiv, Nat.reduceMod, Int.reduceToNat, Int.reduceNeg, Int.reduceAdd, Int.reduceSub, Int.reduceMul, Int.reduceEq, Int.reduceNe, Int.reduceLT, Int.reduceLE, Int.reduceGT, Int.reduceGE]
  exact fin_ok (le_new (Mem.le_refl _) hid) ⟨rfl, rfl⟩

theorem eql_sl_nil (P : Program) (t : TypeId) (x : Operand) (rows : List (List Lf)) (K : AV → Prop) : @binI P .eql t x (.const (.slice none 0 0)) (.l (.sl rows)) (.l .nils) ⟨K⟩ = @optI _ (tiOf P t) ⟨fun i => match i.d with | .slice _ => @nilSI false (.l (.sl rows)) ⟨K⟩ | _ => False⟩ :=
  eql_nils P t x _ _ (fun k n h => by cases h) K
theorem rows2 (l : List Pr) : ∀ r ∈ l.map Pr.row, r.length = 2 := fun r hr => by
  obtain ⟨p, _, rfl⟩ := List.mem_map.1 hr
  rfl
/-- append of pairs to a slice of a live block. -/
theorem app_prs {l : List Pr} {id len : Nat} {rows : List (List Lf)} {keep : Nat} {M : Mem} (hM : M id = some (.cells 32 rows keep)) (hlen : len ≤ rows.length) (hk : keep ≤ len) (hb : len + l.length ≤ 8796093022208) {K : AV → Mem → Prop}
    (h : ∀ id', (∀ j, id' ≤ j → M j = none) → K (.l (.ms id' 0 (len + l.length))) ((M.del id).set id' (.cells 32 (rows.take len ++ l.map Pr.row) keep))) :
    @appI Go.Proofs.Tryd.prog M 22 22 (.l (.ms id 0 len)) (.l (.sl (l.map Pr.row))) ⟨K⟩ := by
  refine app_ms _ _ _ _ 32 _ _ ti_22 rfl ti_32 (by kernel_rfl) (by decide) id len _ (rows := rows) (keep := keep) (l.map Pr.row) hM ?_ hlen hk ?_ ?_ ?_
  · simp -implicitDefEqProofs (maxSteps := 1000000) (disch := omega) only [↓xsP, ↓vc_seq, xsQ, xsT, xsR, xsD, ↓reduceIte, reduceCtorEq, eq_self, ne_eq, imp_self, forall_const, Nat.reduceEqDiff, Nat.reduceAdd, Nat.reduceSub, Nat.reduceMul, Nat.reduceLT, Nat.reduceLeDiff, Nat.reduceBEq, Nat.reduceDiv, Nat.reduceMod, Int.reduceToNat, Int.reduceNeg, Int.reduceAdd, Int.reduceSub, Int.reduceMul, Int.reduceEq, Int.reduceNe, Int.reduceLT, Int.reduceLE, Int.reduceGT, Int.reduceGE]
    rw [if_pos (rows2 l)]
  · exact Nat.le_trans (Nat.mul_le_mul_right _ (show len + (l.map Pr.row).length ≤ 8796093022208 by simpa using hb)) (by decide)
  · simp
    omega
  · simpa using h
theorem le_clone {M : Mem} {id id' : Nat} {X Y : Blk} (h : M id = none) : (M.set id' X).le (((M.set id Y).del id).set id' X) := fun i b hb => by
  simp only [Mem.set_app, Mem.del_app] at hb ⊢
  by_cases e : id' = i
  · rw [if_pos e] at hb ⊢; exact hb
  · rw [if_neg e] at hb ⊢
    have hne : ¬ id = i := fun e' => by subst e'; rw [h] at hb; cases hb
    rw [if_neg hne, if_neg hne]
    exact hb
/-- A copy: nil, or a block of its own. -/
theorem clone_live (l : List Pr) (hl : l.length ≤ 8796093022207) (M : Mem) :
    XCalls Go.Proofs.Tryd.prog 53 [.l (.sl (l.map Pr.row))] M fun r M' => (r = .l .nils ∧ l = [] ∧ M' = M) ∨ ∃ id, (∀ j, id ≤ j → M j = none) ∧ r = .l (.ms id 0 l.length) ∧ M' = M.set id (.cells 32 (l.map Pr.row) 0) := by
  refine xcalls_intro (rs := [.tmp 2]) Go.Proofs.Tryd.func53 rfl (by kernel_rfl) rfl rfl (by kernel_rfl) (by simp) ?_
  simp -implicitDefEqProofs (maxSteps := 1000000) (disch := omega) only [↓xsP, ↓vc_seq, xsQ, xsT, xsR, xsD, ↓reduceIte, reduceCtorEq, eq_self, ne_eq, imp_self, forall_const, Nat.reduceEqDiff, Nat.reduceAdd, Nat.reduceSub, Nat.reduceMul, Nat.reduceLT, Nat.reduceLeDiff, Nat.reduceBEq, Nat.reduceDiv, Nat.reduceMod, Int.reduceToNat, Int.reduceNeg, Int.reduceAdd, Int.reduceSub, Int.reduceMul, Int.reduceEq, Int.reduceNe, Int.reduceLT, Int.reduceLE, Int.reduceGT, Int.reduceGE]
  rw [eql_sl_nil]
  simp -implicitDefEqProofs (maxSteps := 1000000) (disch := omega) only [↓xsP, ↓vc_seq, xsQ, xsT, xsR, xsD, ↓reduceIte, reduceCtorEq, eq_self, ne_eq, imp_self, forall_const, Nat.reduceEqDiff, Nat.reduceAdd, Nat.reduceSub, Nat.reduceMul, Nat.reduceLT, Nat.reduceLeDiff, Nat.reduceBEq, Nat.reduceDiv, Nat.reduceMod, Int.reduceToNat, Int.reduceNeg, Int.reduceAdd, Int.reduceSub, Int.reduceMul, Int.reduceEq, Int.reduceNe, Int.reduceLT, Int.reduceLE, Int.reduceGT, Int.reduceGE]
  refine nilSI_sl _ (fun he b => ?_) (fun hne => ?_)
  · have hl0 : l = [] := by simpa using he
    subst hl0
    cases b with
    | true =>
      simp -implicitDefEqProofs (maxSteps := 1000000) (disch := omega) only [↓xsP, ↓vc_seq, xsQ, xsT, xsR, xsD, ↓reduceIte, reduceCtorEq, eq_self, ne_eq, imp_self, forall_const, Nat.reduceEqDiff, Nat.reduceAdd, Nat.reduceSub, Nat.reduceMul, Nat.reduceLT, Nat.reduceLeDiff, Nat.reduceBEq, Nat.reduceDiv, Nat.reduceMod, Int.reduceToNat, Int.reduceNeg, Int.reduceAdd, Int.reduceSub, Int.reduceMul, Int.reduceEq, Int.reduceNe, Int.reduceLT, Int.reduceLE, Int.reduceGT, Int.reduceGE]
      exact fin_ok (Mem.le_refl _) (.inl ⟨rfl, rfl, rfl⟩)
    | false =>
      simp -implicitDefEqProofs (maxSteps := 1000000) (disch := omega) only [↓xsP, ↓vc_seq, xsQ, xsT, xsR, xsD, ↓reduceIte, reduceCtorEq, eq_self, ne_eq, imp_self, forall_const, Nat.reduceEqDiff, Nat.reduceAdd, Nat.reduceSub, Nat.reduceMul, Nat.reduceLT, Nat.reduceLeDiff, Nat.reduceBEq, Nat.reduceDiv, Nat.reduceMod, Int.reduceToNat, Int.reduceNeg, Int.reduceAdd, Int.reduceSub, Int.reduceMul, Int.reduceEq, Int.reduceNe, Int.reduceLT, Int.reduceLE, Int.reduceGT, Int.reduceGE]
      refine newI_intro fun id hid => ?_
      simp -implicitDefEqProofs (maxSteps := 1000000) (disch := omega) only [↓xsP, ↓vc_seq, xsQ, xsT, xsR, xsD, ↓reduceIte, reduceCtorEq, eq_self, ne_eq, imp_self, forall_const, Nat.reduceEqDiff, Nat.reduceAdd, Nat.reduceSub, Nat.reduceMul, Nat.reduceLT, Nat.reduceLeDiff, Nat.reduceBEq, Nat.reduceDiv, Nat.reduceMod, Int.reduceToNat, Int.reduceNeg, Int.reduceAdd, Int.reduceSub, Int.reduceMul, Int.reduceEq, Int.reduceNe, Int.reduceLT, Int.reduceLE, Int.reduceGT, Int.reduceGE]
      refine app_prs (l := []) (rows := []) (keep := 0) (Mem.set_eq _ _ _) (Nat.zero_le _) (Nat.le_refl _) (by simp) fun id' hid' => ?_
      obtain ⟨hlt, hid'⟩ := bnd_new hid'
      simp -implicitDefEqProofs (maxSteps := 1000000) (disch := omega) only [↓xsP, ↓vc_seq, xsQ, xsT, xsR, xsD, ↓reduceIte, reduceCtorEq, eq_self, ne_eq, imp_self, forall_const, Nat.reduceEqDiff, Nat.reduceAdd, Nat.reduceSub, Nat.reduceMul, Nat.reduceLT, Nat.reduceLeDiff, Nat.reduceBEq, Nat.reduceDiv, Nat.reduceMod, Int.reduceToNat, Int.reduceNeg, Int.reduceAdd, Int.reduceSub, Int.reduceMul, Int.reduceEq, Int.reduceNe, Int.reduceLT, Int.reduceLE, Int.reduceGT, Int.reduceGE]
      exact finI_of (XFin.le (le_clone (hid _ (Nat.le_refl _))) (.inr ⟨id', hid', rfl, rfl⟩))
  · simp -implicitDefEqProofs (maxSteps := 1000000) (disch := omega) only [↓xsP, ↓vc_seq, xsQ, xsT, xsR, xsD, ↓reduceIte, reduceCtorEq, eq_self, ne_eq, imp_self, forall_const, Nat.reduceEqDiff, Nat.reduceAdd, Nat.reduceSub, Nat.reduceMul, Nat.reduceLT, Nat.reduceLeDiff, Nat.reduceBEq, Nat.reduceDiv, Nat.reduceMod, Int.reduceToNat, Int.reduceNeg, Int.reduceAdd, Int.reduceSub, Int.reduceMul, Int.reduceEq, Int.reduceNe, Int.reduceLT, Int.reduceLE, Int.reduceGT, Int.reduceGE]
    refine newI_intro fun id hid => ?_
    simp -implicitDefEqProofs (maxSteps := 1000000) (disch := omega) only [↓xsP, ↓vc_seq, xsQ, xsT, xsR, xsD, ↓reduceIte, reduceCtorEq, eq_self, ne_eq, imp_self, forall_const, Nat.reduceEqDiff, Nat.reduceAdd, Nat.reduceSub, Nat.reduceMul, Nat.reduceLT, Nat.reduceLeDiff, Nat.reduceBEq, Nat.reduceDiv, Nat.reduceMod, Int.reduceToNat, Int.reduceNeg, Int.reduceAdd, Int.reduceSub, Int.reduceMul, Int.reduceEq, Int.reduceNe, Int.reduceLT, Int.reduceLE, Int.reduceGT, Int.reduceGE]
    refine app_prs (l := l) (rows := []) (keep := 0) (Mem.set_eq _ _ _) (Nat.zero_le _) (Nat.le_refl _) (by omega) fun id' hid' => ?_
    obtain ⟨hlt, hid'⟩ := bnd_new hid'
    simp -implicitDefEqProofs (maxSteps := 1000000) (disch := omega) only [↓xsP, ↓vc_seq, xsQ, xsT, xsR, xsD, ↓reduceIte, reduceCtorEq, eq_self, ne_eq, imp_self, forall_const, Nat.reduceEqDiff, Nat.reduceAdd, Nat.reduceSub, Nat.reduceMul, Nat.reduceLT, Nat.reduceLeDiff, Nat.reduceBEq, Nat.reduceDiv, Nat.reduceMod, Int.reduceToNat, Int.reduceNeg, Int.reduceAdd, Int.reduceSub, Int.reduceMul, Int.reduceEq, Int.reduceNe, Int.reduceLT, Int.reduceLE, Int.reduceGT, Int.reduceGE]
    exact finI_of (XFin.le (le_clone (hid _ (Nat.le_refl _))) (.inr ⟨id', hid', rfl, rfl⟩))
/-- A copy, kept. -/
theorem clone_spec (l : List Pr) (hl : l.length ≤ 8796093022207) (M : Mem) :
    XCalls Go.Proofs.Tryd.prog 53 [.l (.sl (l.map Pr.row))] M fun r M' => r = .l (.sl (l.map Pr.row)) ∧ M' = M := by
  refine (clone_live l hl M).fin ?_
  rintro v M' (⟨rfl, rfl, rfl⟩ | ⟨id, hid, rfl, rfl⟩)
  · exact XFin.wk (XFin.here ⟨rfl, rfl⟩)
  · refine XFin.frz id (Mem.set_eq _ _ _) (XFin.le ?_ ⟨?_, rfl⟩)
    · exact le_new (le_new (Mem.le_refl _) hid) hid
    · simp [frzA, frz1, frzL, List.take_of_length_le]

theorem pidx_cases (q : Pr → Bool) : ∀ (l : List Pr) (i : Nat), (pidx q l i = -1 ∧ ∀ p ∈ l, q p = false) ∨ ∃ k, k < l.length ∧ pidx q l i = (i : Int) + k ∧ q (l.getD k default) = true ∧ ∀ p ∈ l.take k, q p = false
  | [], i => .inl ⟨rfl, fun p hp => by cases hp⟩
  | p :: r, i => by
    simp only [pidx]
    cases hq : q p with
    | true => exact .inr ⟨0, by simp, by simp, by simpa using hq, fun p hp => by simp at hp⟩
    | false =>
      rcases pidx_cases q r (i + 1) with ⟨h1, h2⟩ | ⟨k, hk, h1, h2, h3⟩
      · refine .inl ⟨by simpa using h1, fun x hx => ?_⟩
        rcases List.mem_cons.1 hx with rfl | hx
        · exact hq
        · exact h2 x hx
      · refine .inr ⟨k + 1, by simpa using hk, ?_, by simpa using h2, fun x hx => ?_⟩
        · simp only [Bool.false_eq_true, if_false]
          rw [h1]
          omega
        · rw [List.take_succ_cons] at hx
          rcases List.mem_cons.1 hx with rfl | hx
          · exact hq
          · exact h3 x hx

/-- The pairs that stay. -/
def stays (q : Pr → Bool) (l : List Pr) : List Pr := l.filter fun p => !q p
theorem stays_all {q : Pr → Bool} {l : List Pr} (h : ∀ p ∈ l, q p = false) : stays q l = l := List.filter_eq_self.2 fun p hp => by simp [h p hp]
theorem stays_snoc (q : Pr → Bool) (l : List Pr) {j : Nat} (hj : j < l.length) : stays q (l.take (j + 1)) = stays q (l.take j) ++ (if q (l.getD j default) then [] else [l.getD j default]) := by
  have : l.take (j + 1) = l.take j ++ [l.getD j default] := by
    rw [List.take_add_one, List.getD_eq_getElem?_getD, List.getElem?_eq_getElem hj]
    rfl
  rw [this, stays, List.filter_append, stays]
  congr 1
  cases hq : q (l.getD j default) <;> simp [hq, -List.getD_eq_getElem?_getD]

theorem delete_spec (l : List Pr) (hl : l.length ≤ 8796093022207) (id : Nat) (M : Mem) (hM : M id = some (.cells 32 (l.map Pr.row) 0)) (f : FuncId) (caps : List Lf) (q : Pr → Bool)
    (hq : ∀ p M', (∀ j b, j ≠ id → M j = some b → M' j = some b) → XCalls Go.Proofs.Tryd.prog f ([.agg p.row] ++ caps.map .l) M' fun r M'' => r = .l (.bool (q p)) ∧ M'' = M') :
    XCalls Go.Proofs.Tryd.prog 64 [.l (.ms id 0 l.length), .l (.clo f caps)] M fun r M' => ∃ R : List Pr, r = .l (.ms id 0 (stays q l).length) ∧ M' = M.set id (.cells 32 (R.map Pr.row) 0) ∧ R.take (stays q l).length = stays q l ∧ (stays q l).length ≤ R.length := by
  refine xcalls_intro (rs := [.tmp 4]) Go.Proofs.Tryd.func64 rfl (by kernel_rfl) rfl rfl (by kernel_rfl) (by simp) ?_
  simp -implicitDefEqProofs (maxSteps := 1000000) (disch := omega) only [↓xsP, ↓vc_seq, xsQ, xsT, xsR, xsD, ↓reduceIte, reduceCtorEq, eq_self, ne_eq, imp_self, forall_const, Nat.reduceEqDiff, Nat.reduceAdd, Nat.reduceSub, Nat.reduceMul, Nat.reduceLT, Nat.reduceLeDiff, Nat.reduceBEq, Nat.reduceDiv, Nat.reduceMod, Int.reduceToNat, Int.reduceNeg, Int.reduceAdd, Int.reduceSub, Int.reduceMul, Int.reduceEq, Int.reduceNe, Int.reduceLT, Int.reduceLE, Int.reduceGT, Int.reduceGE]
  refine call_of (index_spec l (by omega) _ _ (.inr ⟨id, 0, rfl, hM⟩) _ _ q fun p => hq p M fun j b _ h => h) ?_
  have hset : M.set id (.cells 32 (l.map Pr.row) 0) = M := by
    funext i
    rw [Mem.set_app]
    split
    · rename_i e; subst e; exact hM.symm
    · rfl
  rcases pidx_cases q l 0 with ⟨h1, h2⟩ | ⟨k, hk, h1, h2, h3⟩
  · rw [h1]
    simp -implicitDefEqProofs (maxSteps := 1000000) (disch := omega) only [↓xsP, ↓vc_seq, xsQ, xsT, xsR, xsD, ↓reduceIte, reduceCtorEq, eq_self, ne_eq, imp_self, forall_const, Nat.reduceEqDiff, Nat.reduceAdd, Nat.reduceSub, Nat.reduceMul, Nat.reduceLT, Nat.reduceLeDiff, Nat.reduceBEq, Nat.reduceDiv, Nat.reduceMod, Int.reduceToNat, Int.reduceNeg, Int.reduceAdd, Int.reduceSub, Int.reduceMul, Int.reduceEq, Int.reduceNe, Int.reduceLT, Int.reduceLE, Int.reduceGT, Int.reduceGE]
    refine finI_of (XFin.here ⟨l, by rw [stays_all h2], hset.symm, by rw [stays_all h2, List.take_length], by rw [stays_all h2]; exact Nat.le_refl _⟩)
  · rw [h1]
    have hk1 : ((0 : Nat) : Int) + (k : Int) = (k : Int) := by omega
    rw [hk1]
    have hkn : ((k : Int) = -1) = False := eq_false (by omega)
    simp -implicitDefEqProofs (maxSteps := 1000000) (disch := omega) only [↓xsP, ↓vc_seq, xsQ, xsT, xsR, xsD, ↓reduceIte, reduceCtorEq, eq_self, ne_eq, imp_self, forall_const, Nat.reduceEqDiff, Nat.reduceAdd, Nat.reduceSub, Nat.reduceMul, Nat.reduceLT, Nat.reduceLeDiff, Nat.reduceBEq, Nat.reduceDiv, Nat.reduceMod, Int.reduceToNat, Int.reduceNeg, Int.reduceAdd, Int.reduceSub, Int.reduceMul, Int.reduceEq, Int.reduceNe, Int.reduceLT, Int.reduceLE, Int.reduceGT, Int.reduceGE, hkn]
    have hst0 : stays q (l.take (k + 1)) = l.take k := by
      rw [stays_snoc q l hk, h2, if_pos rfl, List.append_nil, stays_all h3]
    refine loopI_of (xloop (by kernel_rfl) (fun r fr M' => ∃ (j i : Nat) (R : List Pr), i < j ∧ j ≤ l.length ∧ r = l.length - j ∧ fr 0 = .l (.ms id 0 l.length) ∧ fr 1 = .l (.clo f caps) ∧ fr 5 = .l (.int .i64 i) ∧ fr 6 = .l (.int .i64 j) ∧
      R.length = l.length ∧ R.take i = stays q (l.take j) ∧ i = (stays q (l.take j)).length ∧ R.drop j = l.drop j ∧ M' = M.set id (.cells 32 (R.map Pr.row) 0)) (l.length - (k + 1)) ?_ ?_)
    · exact ⟨k + 1, k, l, by omega, by omega, rfl, by simp -implicitDefEqProofs (maxSteps := 1000000) (disch := omega) only [↓xsP, ↓vc_seq, xsQ, xsT, xsR, xsD, ↓reduceIte, reduceCtorEq, eq_self, ne_eq, imp_self, forall_const, Nat.reduceEqDiff, Nat.reduceAdd, Nat.reduceSub, Nat.reduceMul, Nat.reduceLT, Nat.reduceLeDiff, Nat.reduceBEq, Nat.reduceDiv, Nat.reduceMod, Int.reduceToNat, Int.reduceNeg, Int.reduceAdd, Int.reduceSub, Int.reduceMul, Int.reduceEq, Int.reduceNe, Int.reduceLT, Int.reduceLE, Int.reduceGT, Int.reduceGE], by simp -implicitDefEqProofs (maxSteps := 1000000) (disch := omega) only [↓xsP, ↓vc_seq, xsQ, xsT, xsR, xsD, ↓reduceIte, reduceCtorEq, eq_self, ne_eq, imp_self, forall_const, Nat.reduceEqDiff, Nat.reduceAdd, Nat.reduceSub, Nat.reduceMul, Nat.reduceLT, Nat.reduceLeDiff, Nat.reduceBEq, Nat.reduceDiv, Nat.reduceMod, Int.reduceToNat, Int.reduceNeg, Int.reduceAdd, Int.reduceSub, Int.reduceMul, Int.reduceEq, Int.reduceNe, Int.reduceLT, Int.reduceLE, Int.reduceGT, Int.reduceGE], by simp -implicitDefEqProofs (maxSteps := 1000000) (disch := omega) only [↓xsP, ↓vc_seq, xsQ, xsT, xsR, xsD, ↓reduceIte, reduceCtorEq, eq_self, ne_eq, imp_self, forall_const, Nat.reduceEqDiff, Nat.reduceAdd, Nat.reduceSub, Nat.reduceMul, Nat.reduceLT, Nat.reduceLeDiff, Nat.reduceBEq, Nat.reduceDiv, Nat.reduceMod, Int.reduceToNat, Int.reduceNeg, Int.reduceAdd, Int.reduceSub, Int.reduceMul, Int.reduceEq, Int.reduceNe, Int.reduceLT, Int.reduceLE, Int.reduceGT, Int.reduceGE], by simp -implicitDefEqProofs (maxSteps := 1000000) (disch := omega) only [↓xsP, ↓vc_seq, xsQ, xsT, xsR, xsD, ↓reduceIte, reduceCtorEq, eq_self, ne_eq, imp_self, forall_const, Nat.reduceEqDiff, Nat.reduceAdd, Nat.reduceSub, Nat.reduceMul, Nat.reduceLT, Nat.reduceLeDiff, Nat.reduceBEq, Nat.reduceDiv, Nat.reduceMod, Int.reduceToNat, Int.reduceNeg, Int.reduceAdd, Int.reduceSub, Int.reduceMul, Int.reduceEq, Int.reduceNe, Int.reduceLT, Int.reduceLE, Int.reduceGT, Int.reduceGE, Int.natCast_add, Int.cast_ofNat_Int], rfl, hst0.symm, by rw [hst0]; simp; omega, rfl, hset.symm⟩
    · rintro r fr M' ⟨j, i, R, hij, hj, rfl, h0, h1, h5, h6, hR, hRt, hil, hRd, rfl⟩
      simp -implicitDefEqProofs (maxSteps := 1000000) (disch := omega) only [↓xsP, ↓vc_seq, xsQ, xsT, xsR, xsD, ↓reduceIte, reduceCtorEq, eq_self, ne_eq, imp_self, forall_const, Nat.reduceEqDiff, Nat.reduceAdd, Nat.reduceSub, Nat.reduceMul, Nat.reduceLT, Nat.reduceLeDiff, Nat.reduceBEq, Nat.reduceDiv, Nat.reduceMod, Int.reduceToNat, Int.reduceNeg, Int.reduceAdd, Int.reduceSub, Int.reduceMul, Int.reduceEq, Int.reduceNe, Int.reduceLT, Int.reduceLE, Int.reduceGT, Int.reduceGE, h0, h1, h5, h6]
      refine condI_prop (fun hlt => ?_) (fun hlt => ?_)
      · have hj' : j < l.length := by omega
        have hRj : R.getD j default = l.getD j default := by
          have := congrArg (fun x => x[0]?) hRd
          simp only [List.getElem?_drop, Nat.add_zero] at this
          rw [List.getD_eq_getElem?_getD, List.getD_eq_getElem?_getD, this]
        have hM' := Mem.set_eq M id (.cells 32 (R.map Pr.row) 0)
        have hold : ∀ j b, j ≠ id → M j = some b → (M.set id (.cells 32 (R.map Pr.row) 0)) j = some b := fun j b hj hb => by rw [Mem.set_ne _ _ _ _ (Ne.symm hj)]; exact hb
        generalize M.set id (.cells 32 (R.map Pr.row) 0) = N at hM' hold ⊢
        simp -implicitDefEqProofs (maxSteps := 1000000) (disch := omega) only [↓xsP, ↓vc_seq, xsQ, xsT, xsR, xsD, ↓reduceIte, reduceCtorEq, eq_self, ne_eq, imp_self, forall_const, Nat.reduceEqDiff, Nat.reduceAdd, Nat.reduceSub, Nat.reduceMul, Nat.reduceLT, Nat.reduceLeDiff, Nat.reduceBEq, Nat.reduceDiv, Nat.reduceMod, Int.reduceToNat, Int.reduceNeg, Int.reduceAdd, Int.reduceSub, Int.reduceMul, Int.reduceEq, Int.reduceNe, Int.reduceLT, Int.reduceLE, Int.reduceGT, Int.reduceGE, h0, h1, h5, h6, hM']
        refine newI_intro fun id7 hid7 => ?_
        have h7 : id < id7 := lt_of_bnd hid7 hM'
        simp -implicitDefEqProofs (maxSteps := 1000000) (disch := omega) only [↓xsP, ↓vc_seq, xsQ, xsT, xsR, xsD, ↓reduceIte, reduceCtorEq, eq_self, ne_eq, imp_self, forall_const, Nat.reduceEqDiff, Nat.reduceAdd, Nat.reduceSub, Nat.reduceMul, Nat.reduceLT, Nat.reduceLeDiff, Nat.reduceBEq, Nat.reduceDiv, Nat.reduceMod, Int.reduceToNat, Int.reduceNeg, Int.reduceAdd, Int.reduceSub, Int.reduceMul, Int.reduceEq, Int.reduceNe, Int.reduceLT, Int.reduceLE, Int.reduceGT, Int.reduceGE, h0, h1, h5, h6, hM', hRj]
        refine call_of (hq (l.getD j default) _ fun j' b hj' hb => ?_) ?_
        · have := hold j' b hj' hb
          rw [Mem.set_ne _ _ _ _ (by have := lt_of_bnd hid7 this; omega)]
          exact this
        · have hRd1 : R.drop (j + 1) = l.drop (j + 1) := by
            have := congrArg (List.drop 1) hRd
            simpa [List.drop_drop] using this
          have hsn := stays_snoc q l hj'
          have hiR : i < R.length := by omega
          cases hb : q (l.getD j default) with
          | true =>
            rw [hb, if_pos rfl, List.append_nil] at hsn
            simp -implicitDefEqProofs (maxSteps := 1000000) (disch := omega) only [↓xsP, ↓vc_seq, xsQ, xsT, xsR, xsD, ↓reduceIte, reduceCtorEq, eq_self, ne_eq, imp_self, forall_const, Nat.reduceEqDiff, Nat.reduceAdd, Nat.reduceSub, Nat.reduceMul, Nat.reduceLT, Nat.reduceLeDiff, Nat.reduceBEq, Nat.reduceDiv, Nat.reduceMod, Int.reduceToNat, Int.reduceNeg, Int.reduceAdd, Int.reduceSub, Int.reduceMul, Int.reduceEq, Int.reduceNe, Int.reduceLT, Int.reduceLE, Int.reduceGT, Int.reduceGE, h0, h1, h5, h6, hM']
            refine ⟨l.length - (j + 1), M.set id (.cells 32 (R.map Pr.row) 0), by omega, fun i' b hb' => ?_, j + 1, i, R, by omega, by omega, rfl, rfl, by simp, hR, by rw [hsn]; exact hRt, by rw [hsn]; exact hil, hRd1, rfl⟩
            have hN : N i' = some b := by
              rw [Mem.set_app] at hb'
              split at hb'
              · rename_i e; subst e; rw [hM']; exact hb'
              · rename_i e; exact hold _ _ (fun e' => e e'.symm) hb'
            rw [Mem.set_ne _ _ _ _ (by have := lt_of_bnd hid7 hN; omega)]
            exact hN
          | false =>
            rw [hb] at hsn
            simp only [Bool.false_eq_true, if_false] at hsn
            simp -implicitDefEqProofs (maxSteps := 1000000) (disch := omega) only [↓xsP, ↓vc_seq, xsQ, xsT, xsR, xsD, ↓reduceIte, reduceCtorEq, eq_self, ne_eq, imp_self, forall_const, Nat.reduceEqDiff, Nat.reduceAdd, Nat.reduceSub, Nat.reduceMul, Nat.reduceLT, Nat.reduceLeDiff, Nat.reduceBEq, Nat.reduceDiv, Nat.reduceMod, Int.reduceToNat, Int.reduceNeg, Int.reduceAdd, Int.reduceSub, Int.reduceMul, Int.reduceEq, Int.reduceNe, Int.reduceLT, Int.reduceLE, Int.reduceGT, Int.reduceGE, h0, h1, h5, h6, hM']
            have hset' : (R.map Pr.row).set i [.int .i64 (l.getD j default).key, .int .i64 (l.getD j default).val] = (R.set i (l.getD j default)).map Pr.row := by rw [List.map_set]; rfl
            rw [hset']
            refine ⟨l.length - (j + 1), M.set id (.cells 32 ((R.set i (l.getD j default)).map Pr.row) 0), by omega, fun i' b hb' => ?_, j + 1, i + 1, R.set i (l.getD j default), by omega, by omega, rfl, by simp, by simp, by simpa using hR, ?_, by rw [hsn, List.length_append, ← hil]; rfl, ?_, rfl⟩
            · rw [Mem.set_app] at hb' ⊢
              split at hb'
              · rename_i e; rw [if_pos e]; exact hb'
              · rename_i e
                rw [if_neg e]
                have hN := hold _ _ (fun e' => e e'.symm) hb'
                rw [Mem.set_ne _ _ _ _ (by have := lt_of_bnd hid7 hN; omega)]
                exact hN
            · rw [hsn, List.set_eq_take_append_cons_drop, if_pos hiR, List.take_append]
              have hlen : (R.take i).length = i := by simp; omega
              rw [hlen, List.take_of_length_le (by omega), ← hRt]
              have e1 : i + 1 - i = 1 := by omega
              rw [e1]
              rfl
            · rw [List.drop_set, if_pos (by omega)]
              exact hRd1
      · have hjl : j = l.length := by omega
        subst hjl
        rw [List.take_length] at hRt hil
        have hM' := Mem.set_eq M id (.cells 32 (R.map Pr.row) 0)
        have hile : (i ≤ l.length) = True := eq_true (by omega)
        have hi0 : (0 ≤ (i : Int)) = True := eq_true (by omega)
        by_cases hz : i = 0
        · subst hz
          simp -implicitDefEqProofs (maxSteps := 1000000) (disch := omega) only [↓xsP, ↓vc_seq, xsQ, xsT, xsR, xsD, ↓reduceIte, reduceCtorEq, eq_self, ne_eq, imp_self, forall_const, Nat.reduceEqDiff, Nat.reduceAdd, Nat.reduceSub, Nat.reduceMul, Nat.reduceLT, Nat.reduceLeDiff, Nat.reduceBEq, Nat.reduceDiv, Nat.reduceMod, Int.reduceToNat, Int.reduceNeg, Int.reduceAdd, Int.reduceSub, Int.reduceMul, Int.reduceEq, Int.reduceNe, Int.reduceLT, Int.reduceLE, Int.reduceGT, Int.reduceGE, h0, h1, h5, h6, hM', hile, hi0, hR]
          have hnil : stays q l = [] := List.eq_nil_of_length_eq_zero hil.symm
          refine finI_of (XFin.here ⟨List.replicate l.length ⟨0, 0⟩ ++ R.drop l.length, by rw [hnil]; rfl, by simp [Pr.row, List.map_drop], by rw [hnil]; rfl, by rw [hnil]; exact Nat.zero_le _⟩)
        · have hz' : (i = 0) = False := eq_false hz
          have hin : (i = l.length) = False := eq_false (by omega)
          simp -implicitDefEqProofs (maxSteps := 1000000) (disch := omega) only [↓xsP, ↓vc_seq, xsQ, xsT, xsR, xsD, ↓reduceIte, reduceCtorEq, eq_self, ne_eq, imp_self, forall_const, Nat.reduceEqDiff, Nat.reduceAdd, Nat.reduceSub, Nat.reduceMul, Nat.reduceLT, Nat.reduceLeDiff, Nat.reduceBEq, Nat.reduceDiv, Nat.reduceMod, Int.reduceToNat, Int.reduceNeg, Int.reduceAdd, Int.reduceSub, Int.reduceMul, Int.reduceEq, Int.reduceNe, Int.reduceLT, Int.reduceLE, Int.reduceGT, Int.reduceGE, h0, h1, h5, h6, hM', hile, hi0, hz', hin, hR]
          have hsum : (i + (l.length - i) ≤ l.length) = True := eq_true (by omega)
          simp -implicitDefEqProofs (maxSteps := 1000000) (disch := omega) only [↓xsP, ↓vc_seq, xsQ, xsT, xsR, xsD, ↓reduceIte, reduceCtorEq, eq_self, ne_eq, imp_self, forall_const, Nat.reduceEqDiff, Nat.reduceAdd, Nat.reduceSub, Nat.reduceMul, Nat.reduceLT, Nat.reduceLeDiff, Nat.reduceBEq, Nat.reduceDiv, Nat.reduceMod, Int.reduceToNat, Int.reduceNeg, Int.reduceAdd, Int.reduceSub, Int.reduceMul, Int.reduceEq, Int.reduceNe, Int.reduceLT, Int.reduceLE, Int.reduceGT, Int.reduceGE, h0, h1, h5, h6, hsum, hi0, hile, hz', hin]
          have hlen : (R.take i).length = i := by simp; omega
          refine finI_of (XFin.here ⟨R.take i ++ List.replicate (l.length - i) ⟨0, 0⟩ ++ R.drop (i + (l.length - i)), by rw [← hil], by simp [Pr.row, List.map_drop, List.map_take], ?_, by rw [← hil]; simp; omega⟩)
          rw [← hil, List.append_assoc, List.take_append, hlen, Nat.sub_self, List.take_zero, List.append_nil, List.take_of_length_le (by omega)]
          exact hRt
end Go.X
set_option linter.unusedVariables false
set_option linter.unusedSimpArgs false
set_option maxHeartbeats 20000000
set_option maxRecDepth 100000
namespace Go.X
open Go.Proofs.Tryd (prog)

theorem delete_none (M : Mem) (f : FuncId) (caps : List Lf) (q : Pr → Bool) (hq : ∀ p, XCalls Go.Proofs.Tryd.prog f ([.agg p.row] ++ caps.map .l) M fun r M' => r = .l (.bool (q p)) ∧ M' = M) :
    XCalls Go.Proofs.Tryd.prog 64 [.l (.sl []), .l (.clo f caps)] M fun r M' => r = .l (.sl []) ∧ M' = M := by
  refine xcalls_intro (rs := [.tmp 4]) Go.Proofs.Tryd.func64 rfl (by kernel_rfl) rfl rfl (by kernel_rfl) (by simp) ?_
  simp -implicitDefEqProofs (maxSteps := 1000000) (disch := omega) only [↓xsP, ↓vc_seq, xsQ, xsT, xsR, xsD, ↓reduceIte, reduceCtorEq, eq_self, ne_eq, imp_self, forall_const, Nat.reduceEqDiff, Nat.reduceAdd, Nat.reduceSub, Nat.reduceMul, Nat.reduceLT, Nat.reduceLeDiff, Nat.reduceBEq, Nat.reduceDiv, Nat.reduceMod, Int.reduceToNat, Int.reduceNeg, Int.reduceAdd, Int.reduceSub, Int.reduceMul, Int.reduceEq, Int.reduceNe, Int.reduceLT, Int.reduceLE, Int.reduceGT, Int.reduceGE]
  refine call_of (index_spec [] (by simp) _ _ (.inl rfl) _ _ q hq) ?_
  simp -implicitDefEqProofs (maxSteps := 1000000) (disch := omega) only [↓xsP, ↓vc_seq, xsQ, xsT, xsR, xsD, ↓reduceIte, reduceCtorEq, eq_self, ne_eq, imp_self, forall_const, Nat.reduceEqDiff, Nat.reduceAdd, Nat.reduceSub, Nat.reduceMul, Nat.reduceLT, Nat.reduceLeDiff, Nat.reduceBEq, Nat.reduceDiv, Nat.reduceMod, Int.reduceToNat, Int.reduceNeg, Int.reduceAdd, Int.reduceSub, Int.reduceMul, Int.reduceEq, Int.reduceNe, Int.reduceLT, Int.reduceLE, Int.reduceGT, Int.reduceGE, pidx]
  exact fin_ok (Mem.le_refl _) ⟨rfl, rfl⟩

def outside (lo hi : Int) (p : Pr) : Bool := decide (p.key < lo) || decide (p.key > hi)
theorem within_spec (l : List Pr) (hl : l.length ≤ 8796093022207) (lo hi : Int) (M : Mem) :
    XCalls Go.Proofs.Tryd.prog 59 [.l (.sl (l.map Pr.row)), .l (.int .i64 lo), .l (.int .i64 hi)] M fun r M' => r = .l (.sl ((stays (outside lo hi) l).map Pr.row)) ∧ M' = M := by
  refine xcalls_intro (rs := [.tmp 6]) Go.Proofs.Tryd.func59 rfl (by kernel_rfl) rfl rfl (by kernel_rfl) (by simp) ?_
  simp -implicitDefEqProofs (maxSteps := 1000000) (disch := omega) only [↓xsP, ↓vc_seq, xsQ, xsT, xsR, xsD, ↓reduceIte, reduceCtorEq, eq_self, ne_eq, imp_self, forall_const, Nat.reduceEqDiff, Nat.reduceAdd, Nat.reduceSub, Nat.reduceMul, Nat.reduceLT, Nat.reduceLeDiff, Nat.reduceBEq, Nat.reduceDiv, Nat.reduceMod, Int.reduceToNat, Int.reduceNeg, Int.reduceAdd, Int.reduceSub, Int.reduceMul, Int.reduceEq, Int.reduceNe, Int.reduceLT, Int.reduceLE, Int.reduceGT, Int.reduceGE]
  refine newI_intro fun a ha => ?_
  simp -implicitDefEqProofs (maxSteps := 1000000) (disch := omega) only [↓xsP, ↓vc_seq, xsQ, xsT, xsR, xsD, ↓reduceIte, reduceCtorEq, eq_self, ne_eq, imp_self, forall_const, Nat.reduceEqDiff, Nat.reduceAdd, Nat.reduceSub, Nat.reduceMul, Nat.reduceLT, Nat.reduceLeDiff, Nat.reduceBEq, Nat.reduceDiv, Nat.reduceMod, Int.reduceToNat, Int.reduceNeg, Int.reduceAdd, Int.reduceSub, Int.reduceMul, Int.reduceEq, Int.reduceNe, Int.reduceLT, Int.reduceLE, Int.reduceGT, Int.reduceGE]
  refine newI_intro fun b hb => ?_
  obtain ⟨hab, hb⟩ := bnd_new hb
  simp -implicitDefEqProofs (maxSteps := 1000000) (disch := omega) only [↓xsP, ↓vc_seq, xsQ, xsT, xsR, xsD, ↓reduceIte, reduceCtorEq, eq_self, ne_eq, imp_self, forall_const, Nat.reduceEqDiff, Nat.reduceAdd, Nat.reduceSub, Nat.reduceMul, Nat.reduceLT, Nat.reduceLeDiff, Nat.reduceBEq, Nat.reduceDiv, Nat.reduceMod, Int.reduceToNat, Int.reduceNeg, Int.reduceAdd, Int.reduceSub, Int.reduceMul, Int.reduceEq, Int.reduceNe, Int.reduceLT, Int.reduceLE, Int.reduceGT, Int.reduceGE]
  refine callI_of ((clone_live l hl _).mono ?_)
  rintro r M1 (⟨rfl, rfl, rfl⟩ | ⟨id, hid, rfl, rfl⟩)
  · simp -implicitDefEqProofs (maxSteps := 1000000) (disch := omega) only [↓xsP, ↓vc_seq, xsQ, xsT, xsR, xsD, ↓reduceIte, reduceCtorEq, eq_self, ne_eq, imp_self, forall_const, Nat.reduceEqDiff, Nat.reduceAdd, Nat.reduceSub, Nat.reduceMul, Nat.reduceLT, Nat.reduceLeDiff, Nat.reduceBEq, Nat.reduceDiv, Nat.reduceMod, Int.reduceToNat, Int.reduceNeg, Int.reduceAdd, Int.reduceSub, Int.reduceMul, Int.reduceEq, Int.reduceNe, Int.reduceLT, Int.reduceLE, Int.reduceGT, Int.reduceGE]
    refine callI_of (XCalls.wk ?_)
    refine (delete_none _ _ _ (outside lo hi) fun p => withinClo_spec (keep := 0) (keep' := 0) p a b lo hi _ ?_ ?_).mono ?_
    · rw [Mem.set_ne _ _ _ _ (by omega)]; exact Mem.set_eq _ _ _
    · exact Mem.set_eq _ _ _
    · rintro _ _ ⟨rfl, rfl⟩
      simp -implicitDefEqProofs (maxSteps := 1000000) (disch := omega) only [↓xsP, ↓vc_seq, xsQ, xsT, xsR, xsD, ↓reduceIte, reduceCtorEq, eq_self, ne_eq, imp_self, forall_const, Nat.reduceEqDiff, Nat.reduceAdd, Nat.reduceSub, Nat.reduceMul, Nat.reduceLT, Nat.reduceLeDiff, Nat.reduceBEq, Nat.reduceDiv, Nat.reduceMod, Int.reduceToNat, Int.reduceNeg, Int.reduceAdd, Int.reduceSub, Int.reduceMul, Int.reduceEq, Int.reduceNe, Int.reduceLT, Int.reduceLE, Int.reduceGT, Int.reduceGE]
      exact fin_ok (le_new (le_new (Mem.le_refl _) ha) hb) ⟨rfl, rfl⟩
  · obtain ⟨hbi, hid⟩ := bnd_new hid
    obtain ⟨hai, hid⟩ := bnd_new hid
    simp -implicitDefEqProofs (maxSteps := 1000000) (disch := omega) only [↓xsP, ↓vc_seq, xsQ, xsT, xsR, xsD, ↓reduceIte, reduceCtorEq, eq_self, ne_eq, imp_self, forall_const, Nat.reduceEqDiff, Nat.reduceAdd, Nat.reduceSub, Nat.reduceMul, Nat.reduceLT, Nat.reduceLeDiff, Nat.reduceBEq, Nat.reduceDiv, Nat.reduceMod, Int.reduceToNat, Int.reduceNeg, Int.reduceAdd, Int.reduceSub, Int.reduceMul, Int.reduceEq, Int.reduceNe, Int.reduceLT, Int.reduceLE, Int.reduceGT, Int.reduceGE]
    refine callI_of ((delete_spec l hl id _ (Mem.set_eq _ _ _) _ _ (outside lo hi) fun p M' h => withinClo_spec (keep := 0) (keep' := 0) p a b lo hi _ (h a _ (by omega) ?_) (h b _ (by omega) ?_)).mono ?_)
    · rw [Mem.set_ne _ _ _ _ (by omega), Mem.set_ne _ _ _ _ (by omega)]; exact Mem.set_eq _ _ _
    · rw [Mem.set_ne _ _ _ _ (by omega)]; exact Mem.set_eq _ _ _
    · rintro _ _ ⟨R, rfl, rfl, hR, hRl⟩
      simp -implicitDefEqProofs (maxSteps := 1000000) (disch := omega) only [↓xsP, ↓vc_seq, xsQ, xsT, xsR, xsD, ↓reduceIte, reduceCtorEq, eq_self, ne_eq, imp_self, forall_const, Nat.reduceEqDiff, Nat.reduceAdd, Nat.reduceSub, Nat.reduceMul, Nat.reduceLT, Nat.reduceLeDiff, Nat.reduceBEq, Nat.reduceDiv, Nat.reduceMod, Int.reduceToNat, Int.reduceNeg, Int.reduceAdd, Int.reduceSub, Int.reduceMul, Int.reduceEq, Int.reduceNe, Int.reduceLT, Int.reduceLE, Int.reduceGT, Int.reduceGE]
      refine finI_of (XFin.frz id (Mem.set_eq _ _ _) (XFin.le ?_ ⟨?_, rfl⟩))
      · intro i x hx
        have hi := lt_of_bnd ha hx
        simp only [Mem.set_app]
        (repeat rw [if_neg (by omega)])
        exact hx
      · simp [frzA, frz1, frzL, hRl, ← List.map_take, hR]

/-- Room for so many pairs. -/
theorem grow_spec (n : Nat) (hn : n ≤ 8796093022208) (M : Mem) :
    XCalls Go.Proofs.Tryd.prog 75 [.l .nils, .l (.int .i64 n)] M fun r M' => (r = .l .nils ∧ n = 0 ∧ M' = M) ∨ ∃ id, (∀ j, id ≤ j → M j = none) ∧ r = .l (.ms id 0 0) ∧ M' = M.set id (.cells 32 (List.replicate n [.int .i64 0, .int .i64 0]) 0) := by
  refine xcalls_intro (rs := [.tmp 4]) Go.Proofs.Tryd.func75 rfl (by kernel_rfl) rfl rfl (by kernel_rfl) (by simp) ?_
  have h0 : ((n : Int) < 0) = False := eq_false (by omega)
  simp -implicitDefEqProofs (maxSteps := 1000000) (disch := omega) only [↓xsP, ↓vc_seq, xsQ, xsT, xsR, xsD, ↓reduceIte, reduceCtorEq, eq_self, ne_eq, imp_self, forall_const, Nat.reduceEqDiff, Nat.reduceAdd, Nat.reduceSub, Nat.reduceMul, Nat.reduceLT, Nat.reduceLeDiff, Nat.reduceBEq, Nat.reduceDiv, Nat.reduceMod, Int.reduceToNat, Int.reduceNeg, Int.reduceAdd, Int.reduceSub, Int.reduceMul, Int.reduceEq, Int.reduceNe, Int.reduceLT, Int.reduceLE, Int.reduceGT, Int.reduceGE, h0]
  have hn0 : (n : Int) - 0 = n := by omega
  rw [hn0]
  refine condI_prop (fun hp => ?_) (fun hp => ?_)
  · simp -implicitDefEqProofs (maxSteps := 1000000) (disch := omega) only [↓xsP, ↓vc_seq, xsQ, xsT, xsR, xsD, ↓reduceIte, reduceCtorEq, eq_self, ne_eq, imp_self, forall_const, Nat.reduceEqDiff, Nat.reduceAdd, Nat.reduceSub, Nat.reduceMul, Nat.reduceLT, Nat.reduceLeDiff, Nat.reduceBEq, Nat.reduceDiv, Nat.reduceMod, Int.reduceToNat, Int.reduceNeg, Int.reduceAdd, Int.reduceSub, Int.reduceMul, Int.reduceEq, Int.reduceNe, Int.reduceLT, Int.reduceLE, Int.reduceGT, Int.reduceGE]
    refine app_zeros _ _ _ _ 32 _ _ _ ti_22 rfl ti_3 rfl ti_32 (by kernel_rfl) rfl rfl (by decide) _ (by omega) ?_ (by omega) fun id hid => ?_
    · exact Nat.le_trans (Nat.mul_le_mul_right _ (show (n : Int).toNat ≤ 8796093022208 by omega)) (by decide)
    · simp -implicitDefEqProofs (maxSteps := 1000000) (disch := omega) only [↓xsP, ↓vc_seq, xsQ, xsT, xsR, xsD, ↓reduceIte, reduceCtorEq, eq_self, ne_eq, imp_self, forall_const, Nat.reduceEqDiff, Nat.reduceAdd, Nat.reduceSub, Nat.reduceMul, Nat.reduceLT, Nat.reduceLeDiff, Nat.reduceBEq, Nat.reduceDiv, Nat.reduceMod, Int.reduceToNat, Int.reduceNeg, Int.reduceAdd, Int.reduceSub, Int.reduceMul, Int.reduceEq, Int.reduceNe, Int.reduceLT, Int.reduceLE, Int.reduceGT, Int.reduceGE]
      refine finI_of (XFin.here (.inr ⟨id, hid, rfl, rfl⟩))
  · simp -implicitDefEqProofs (maxSteps := 1000000) (disch := omega) only [↓xsP, ↓vc_seq, xsQ, xsT, xsR, xsD, ↓reduceIte, reduceCtorEq, eq_self, ne_eq, imp_self, forall_const, Nat.reduceEqDiff, Nat.reduceAdd, Nat.reduceSub, Nat.reduceMul, Nat.reduceLT, Nat.reduceLeDiff, Nat.reduceBEq, Nat.reduceDiv, Nat.reduceMod, Int.reduceToNat, Int.reduceNeg, Int.reduceAdd, Int.reduceSub, Int.reduceMul, Int.reduceEq, Int.reduceNe, Int.reduceLT, Int.reduceLE, Int.reduceGT, Int.reduceGE]
    have : n = 0 := by omega
    exact fin_ok (Mem.le_refl _) (.inl ⟨rfl, this, rfl⟩)

theorem src_src {M : Mem} {s : Lf} {l : List Pr} (h : SrcIs M s l) {te : TI} (hs : te.size = 2) : srcRows Go.Proofs.Tryd.prog M 22 22 32 te (.l s) = some (l.map Pr.row) := by
  rcases h with rfl | ⟨id, keep, rfl, hM⟩
  · simp -implicitDefEqProofs (maxSteps := 1000000) (disch := omega) only [↓xsP, ↓vc_seq, xsQ, xsT, xsR, xsD, ↓reduceIte, reduceCtorEq, eq_self, ne_eq, imp_self, forall_const, Nat.reduceEqDiff, Nat.reduceAdd, Nat.reduceSub, Nat.reduceMul, Nat.reduceLT, Nat.reduceLeDiff, Nat.reduceBEq, Nat.reduceDiv, Nat.reduceMod, Int.reduceToNat, Int.reduceNeg, Int.reduceAdd, Int.reduceSub, Int.reduceMul, Int.reduceEq, Int.reduceNe, Int.reduceLT, Int.reduceLE, Int.reduceGT, Int.reduceGE]
    rw [hs, if_pos (rows2 l)]
  · simp -implicitDefEqProofs (maxSteps := 1000000) (disch := omega) only [↓xsP, ↓vc_seq, xsQ, xsT, xsR, xsD, ↓reduceIte, reduceCtorEq, eq_self, ne_eq, imp_self, forall_const, Nat.reduceEqDiff, Nat.reduceAdd, Nat.reduceSub, Nat.reduceMul, Nat.reduceLT, Nat.reduceLeDiff, Nat.reduceBEq, Nat.reduceDiv, Nat.reduceMod, Int.reduceToNat, Int.reduceNeg, Int.reduceAdd, Int.reduceSub, Int.reduceMul, Int.reduceEq, Int.reduceNe, Int.reduceLT, Int.reduceLE, Int.reduceGT, Int.reduceGE, hM]
    rw [List.take_of_length_le (by simp)]
theorem app_src {M : Mem} {s : Lf} {l : List Pr} (h : SrcIs M s l) {id len : Nat} {rows : List (List Lf)} {keep : Nat} (hM : M id = some (.cells 32 rows keep)) (hlen : len ≤ rows.length) (hk : keep ≤ len) (hb : len + l.length ≤ 8796093022208) {K : AV → Mem → Prop}
    (hc : ∀ id', (∀ j, id' ≤ j → M j = none) → K (.l (.ms id' 0 (len + l.length))) ((M.del id).set id' (.cells 32 (rows.take len ++ l.map Pr.row) keep))) :
    @appI Go.Proofs.Tryd.prog M 22 22 (.l (.ms id 0 len)) (.l s) ⟨K⟩ := by
  refine app_ms _ _ _ _ 32 _ _ ti_22 rfl ti_32 (by kernel_rfl) (by decide) id len _ (rows := rows) (keep := keep) (l.map Pr.row) hM (src_src h rfl) hlen hk ?_ ?_ ?_
  · exact Nat.le_trans (Nat.mul_le_mul_right _ (show len + (l.map Pr.row).length ≤ 8796093022208 by simpa using hb)) (by decide)
  · simp
    omega
  · simpa using hc
theorem app_src_nil {M : Mem} {s : Lf} (h : SrcIs M s []) {K : AV → Mem → Prop} (hc : K (.l .nils) M) : @appI Go.Proofs.Tryd.prog M 22 22 (.l .nils) (.l s) ⟨K⟩ :=
  app_nils _ _ _ _ 32 _ _ ti_22 rfl ti_32 (by kernel_rfl) (by decide) _ [] (src_src h rfl) (by simp) (by simp) (fun _ => hc) (fun h => absurd rfl h)

theorem tot_take {L : List (List Pr)} {i : Nat} (hi : i < L.length) : (L.take (i + 1)).flatten = (L.take i).flatten ++ L.getD i [] := by
  rw [List.take_add_one, List.flatten_append, List.getD_eq_getElem?_getD, List.getElem?_eq_getElem hi]
  simp
theorem tot_le (L : List (List Pr)) (i : Nat) : (L.take i).flatten.length ≤ L.flatten.length := by
  conv => rhs; rw [← List.take_append_drop i L]
  rw [List.flatten_append, List.length_append]
  omega
theorem concat_spec (L : List (List Pr)) (srcs : List Lf) (hlen : srcs.length = L.length) (hln : L.length ≤ 1000) (htot : L.flatten.length ≤ 8796093022208) (ids : Nat) (M : Mem) {keep : Nat} (hM : M ids = some (.cells 22 (srcs.map fun s => [s]) keep)) (hsrc : ∀ i, i < L.length → SrcIs M (srcs.getD i .nils) (L.getD i [])) :
    XCalls Go.Proofs.Tryd.prog 68 [.l (.ms ids 0 L.length)] M fun r M' => r = .l (.sl (L.flatten.map Pr.row)) ∧ M' = M := by
  refine xcalls_intro (rs := [.tmp 2]) Go.Proofs.Tryd.func68 rfl (by kernel_rfl) rfl rfl (by kernel_rfl) (by simp) ?_
  refine vc_seq_of ?_
  simp -implicitDefEqProofs (maxSteps := 1000000) (disch := omega) only [↓xsP, xsQ, xsT, xsR, xsD, ↓reduceIte, reduceCtorEq, eq_self, ne_eq, imp_self, forall_const, Nat.reduceEqDiff, Nat.reduceAdd, Nat.reduceSub, Nat.reduceMul, Nat.reduceLT, Nat.reduceLeDiff, Nat.reduceBEq, Nat.reduceDiv, Nat.reduceMod, Int.reduceToNat, Int.reduceNeg, Int.reduceAdd, Int.reduceSub, Int.reduceMul, Int.reduceEq, Int.reduceNe, Int.reduceLT, Int.reduceLE, Int.reduceGT, Int.reduceGE]
  refine vc_seq_of ?_
  simp -implicitDefEqProofs (maxSteps := 1000000) (disch := omega) only [↓xsP, xsQ, xsT, xsR, xsD, ↓reduceIte, reduceCtorEq, eq_self, ne_eq, imp_self, forall_const, Nat.reduceEqDiff, Nat.reduceAdd, Nat.reduceSub, Nat.reduceMul, Nat.reduceLT, Nat.reduceLeDiff, Nat.reduceBEq, Nat.reduceDiv, Nat.reduceMod, Int.reduceToNat, Int.reduceNeg, Int.reduceAdd, Int.reduceSub, Int.reduceMul, Int.reduceEq, Int.reduceNe, Int.reduceLT, Int.reduceLE, Int.reduceGT, Int.reduceGE]
  have hget : ∀ i, i < L.length → (srcs.map fun s => [s])[i]? = some [srcs.getD i .nils] := fun i hi => by
    rw [List.getElem?_map, List.getElem?_eq_getElem (by omega), List.getD_eq_getElem?_getD, List.getElem?_eq_getElem (by omega)]
    rfl
  refine vc_cut (fun fr N => N = M ∧ fr 0 = .l (.ms ids 0 L.length) ∧ fr 3 = .l (.int .i64 L.flatten.length)) ?_ ?_
  · simp -implicitDefEqProofs (maxSteps := 1000000) (disch := omega) only [↓xsP, ↓vc_seq, xsQ, xsT, xsR, xsD, ↓reduceIte, reduceCtorEq, eq_self, ne_eq, imp_self, forall_const, Nat.reduceEqDiff, Nat.reduceAdd, Nat.reduceSub, Nat.reduceMul, Nat.reduceLT, Nat.reduceLeDiff, Nat.reduceBEq, Nat.reduceDiv, Nat.reduceMod, Int.reduceToNat, Int.reduceNeg, Int.reduceAdd, Int.reduceSub, Int.reduceMul, Int.reduceEq, Int.reduceNe, Int.reduceLT, Int.reduceLE, Int.reduceGT, Int.reduceGE]
    refine loopI_of (xloop (by kernel_rfl) (fun k fr M' => ∃ i : Nat, i ≤ L.length ∧ k = L.length - i ∧ fr 0 = .l (.ms ids 0 L.length) ∧ fr 3 = .l (.int .i64 (L.take i).flatten.length) ∧ fr 9 = .l (.ms ids 0 L.length) ∧ fr 10 = .l (.int .i64 L.length) ∧ fr 11 = .l (.int .i64 i) ∧ M' = M) L.length ?_ ?_)
    · exact ⟨0, Nat.zero_le _, rfl, by simp -implicitDefEqProofs (maxSteps := 1000000) (disch := omega) only [↓xsP, ↓vc_seq, xsQ, xsT, xsR, xsD, ↓reduceIte, reduceCtorEq, eq_self, ne_eq, imp_self, forall_const, Nat.reduceEqDiff, Nat.reduceAdd, Nat.reduceSub, Nat.reduceMul, Nat.reduceLT, Nat.reduceLeDiff, Nat.reduceBEq, Nat.reduceDiv, Nat.reduceMod, Int.reduceToNat, Int.reduceNeg, Int.reduceAdd, Int.reduceSub, Int.reduceMul, Int.reduceEq, Int.reduceNe, Int.reduceLT, Int.reduceLE, Int.reduceGT, Int.reduceGE], by simp -implicitDefEqProofs (maxSteps := 1000000) (disch := omega) only [↓xsP, ↓vc_seq, xsQ, xsT, xsR, xsD, ↓reduceIte, reduceCtorEq, eq_self, ne_eq, imp_self, forall_const, Nat.reduceEqDiff, Nat.reduceAdd, Nat.reduceSub, Nat.reduceMul, Nat.reduceLT, Nat.reduceLeDiff, Nat.reduceBEq, Nat.reduceDiv, Nat.reduceMod, Int.reduceToNat, Int.reduceNeg, Int.reduceAdd, Int.reduceSub, Int.reduceMul, Int.reduceEq, Int.reduceNe, Int.reduceLT, Int.reduceLE, Int.reduceGT, Int.reduceGE, Int.cast_ofNat_Int], by simp -implicitDefEqProofs (maxSteps := 1000000) (disch := omega) only [↓xsP, ↓vc_seq, xsQ, xsT, xsR, xsD, ↓reduceIte, reduceCtorEq, eq_self, ne_eq, imp_self, forall_const, Nat.reduceEqDiff, Nat.reduceAdd, Nat.reduceSub, Nat.reduceMul, Nat.reduceLT, Nat.reduceLeDiff, Nat.reduceBEq, Nat.reduceDiv, Nat.reduceMod, Int.reduceToNat, Int.reduceNeg, Int.reduceAdd, Int.reduceSub, Int.reduceMul, Int.reduceEq, Int.reduceNe, Int.reduceLT, Int.reduceLE, Int.reduceGT, Int.reduceGE], by simp -implicitDefEqProofs (maxSteps := 1000000) (disch := omega) only [↓xsP, ↓vc_seq, xsQ, xsT, xsR, xsD, ↓reduceIte, reduceCtorEq, eq_self, ne_eq, imp_self, forall_const, Nat.reduceEqDiff, Nat.reduceAdd, Nat.reduceSub, Nat.reduceMul, Nat.reduceLT, Nat.reduceLeDiff, Nat.reduceBEq, Nat.reduceDiv, Nat.reduceMod, Int.reduceToNat, Int.reduceNeg, Int.reduceAdd, Int.reduceSub, Int.reduceMul, Int.reduceEq, Int.reduceNe, Int.reduceLT, Int.reduceLE, Int.reduceGT, Int.reduceGE], by simp -implicitDefEqProofs (maxSteps := 1000000) (disch := omega) only [↓xsP, ↓vc_seq, xsQ, xsT, xsR, xsD, ↓reduceIte, reduceCtorEq, eq_self, ne_eq, imp_self, forall_const, Nat.reduceEqDiff, Nat.reduceAdd, Nat.reduceSub, Nat.reduceMul, Nat.reduceLT, Nat.reduceLeDiff, Nat.reduceBEq, Nat.reduceDiv, Nat.reduceMod, Int.reduceToNat, Int.reduceNeg, Int.reduceAdd, Int.reduceSub, Int.reduceMul, Int.reduceEq, Int.reduceNe, Int.reduceLT, Int.reduceLE, Int.reduceGT, Int.reduceGE, Int.cast_ofNat_Int], rfl⟩
    · rintro k fr M' ⟨i, hi, rfl, h0, h3, h9, h10, h11, rfl⟩
      simp -implicitDefEqProofs (maxSteps := 1000000) (disch := omega) only [↓xsP, ↓vc_seq, xsQ, xsT, xsR, xsD, ↓reduceIte, reduceCtorEq, eq_self, ne_eq, imp_self, forall_const, Nat.reduceEqDiff, Nat.reduceAdd, Nat.reduceSub, Nat.reduceMul, Nat.reduceLT, Nat.reduceLeDiff, Nat.reduceBEq, Nat.reduceDiv, Nat.reduceMod, Int.reduceToNat, Int.reduceNeg, Int.reduceAdd, Int.reduceSub, Int.reduceMul, Int.reduceEq, Int.reduceNe, Int.reduceLT, Int.reduceLE, Int.reduceGT, Int.reduceGE, h0, h3, h9, h10, h11]
      refine condI_prop (fun hlt => ?_) (fun hlt => ?_)
      · have hi' : i < L.length := by omega
        have hg := hget i hi'
        have hs := hsrc i hi'
        have ht := tot_take hi'
        have htl := tot_le L (i + 1)
        rw [ht, List.length_append] at htl
        rcases hs with es | ⟨ids2, kp, es, hMs⟩
        · simp -implicitDefEqProofs (maxSteps := 1000000) (disch := omega) only [↓xsP, ↓vc_seq, xsQ, xsT, xsR, xsD, ↓reduceIte, reduceCtorEq, eq_self, ne_eq, imp_self, forall_const, Nat.reduceEqDiff, Nat.reduceAdd, Nat.reduceSub, Nat.reduceMul, Nat.reduceLT, Nat.reduceLeDiff, Nat.reduceBEq, Nat.reduceDiv, Nat.reduceMod, Int.reduceToNat, Int.reduceNeg, Int.reduceAdd, Int.reduceSub, Int.reduceMul, Int.reduceEq, Int.reduceNe, Int.reduceLT, Int.reduceLE, Int.reduceGT, Int.reduceGE, h0, h3, h9, h10, h11, hM, hg, es]
          have hneg : (((L.take i).flatten.length : Int) + ((L.getD i []).length : Int) < 0) = False := eq_false (by omega)
          simp -implicitDefEqProofs (maxSteps := 1000000) (disch := omega) only [↓xsP, ↓vc_seq, xsQ, xsT, xsR, xsD, ↓reduceIte, reduceCtorEq, eq_self, ne_eq, imp_self, forall_const, Nat.reduceEqDiff, Nat.reduceAdd, Nat.reduceSub, Nat.reduceMul, Nat.reduceLT, Nat.reduceLeDiff, Nat.reduceBEq, Nat.reduceDiv, Nat.reduceMod, Int.reduceToNat, Int.reduceNeg, Int.reduceAdd, Int.reduceSub, Int.reduceMul, Int.reduceEq, Int.reduceNe, Int.reduceLT, Int.reduceLE, Int.reduceGT, Int.reduceGE, h0, h3, h9, h10, h11, hM, hg, es, hneg]
          exact ⟨L.length - (i + 1), M', by omega, Mem.le_refl _, i + 1, by omega, rfl, by rw [ht]; simp, by simp, rfl⟩
        · simp -implicitDefEqProofs (maxSteps := 1000000) (disch := omega) only [↓xsP, ↓vc_seq, xsQ, xsT, xsR, xsD, ↓reduceIte, reduceCtorEq, eq_self, ne_eq, imp_self, forall_const, Nat.reduceEqDiff, Nat.reduceAdd, Nat.reduceSub, Nat.reduceMul, Nat.reduceLT, Nat.reduceLeDiff, Nat.reduceBEq, Nat.reduceDiv, Nat.reduceMod, Int.reduceToNat, Int.reduceNeg, Int.reduceAdd, Int.reduceSub, Int.reduceMul, Int.reduceEq, Int.reduceNe, Int.reduceLT, Int.reduceLE, Int.reduceGT, Int.reduceGE, h0, h3, h9, h10, h11, hM, hg, es]
          have hneg : (((L.take i).flatten.length : Int) + ((L.getD i []).length : Int) < 0) = False := eq_false (by omega)
          simp -implicitDefEqProofs (maxSteps := 1000000) (disch := omega) only [↓xsP, ↓vc_seq, xsQ, xsT, xsR, xsD, ↓reduceIte, reduceCtorEq, eq_self, ne_eq, imp_self, forall_const, Nat.reduceEqDiff, Nat.reduceAdd, Nat.reduceSub, Nat.reduceMul, Nat.reduceLT, Nat.reduceLeDiff, Nat.reduceBEq, Nat.reduceDiv, Nat.reduceMod, Int.reduceToNat, Int.reduceNeg, Int.reduceAdd, Int.reduceSub, Int.reduceMul, Int.reduceEq, Int.reduceNe, Int.reduceLT, Int.reduceLE, Int.reduceGT, Int.reduceGE, h0, h3, h9, h10, h11, hM, hg, es, hneg]
          exact ⟨L.length - (i + 1), M', by omega, Mem.le_refl _, i + 1, by omega, rfl, by rw [ht]; simp, by simp, rfl⟩
      · simp -implicitDefEqProofs (maxSteps := 1000000) (disch := omega) only [↓xsP, ↓vc_seq, xsQ, xsT, xsR, xsD, ↓reduceIte, reduceCtorEq, eq_self, ne_eq, imp_self, forall_const, Nat.reduceEqDiff, Nat.reduceAdd, Nat.reduceSub, Nat.reduceMul, Nat.reduceLT, Nat.reduceLeDiff, Nat.reduceBEq, Nat.reduceDiv, Nat.reduceMod, Int.reduceToNat, Int.reduceNeg, Int.reduceAdd, Int.reduceSub, Int.reduceMul, Int.reduceEq, Int.reduceNe, Int.reduceLT, Int.reduceLE, Int.reduceGT, Int.reduceGE, h0, h3, h9, h10, h11]
        have hil : i = L.length := by omega
        rw [hil, List.take_length]
  · rintro fr N ⟨rfl, h0, h3⟩
    refine vc_cut (fun fr M1 => fr 0 = .l (.ms ids 0 L.length) ∧ ((L.flatten = [] ∧ fr 6 = .l .nils ∧ M1 = N) ∨ ∃ idR rows, (∀ j, idR ≤ j → N j = none) ∧ fr 6 = .l (.ms idR 0 0) ∧ M1 = N.set idR (.cells 32 rows 0))) ?_ ?_
    · simp -implicitDefEqProofs (maxSteps := 1000000) (disch := omega) only [↓xsP, ↓vc_seq, xsQ, xsT, xsR, xsD, ↓reduceIte, reduceCtorEq, eq_self, ne_eq, imp_self, forall_const, Nat.reduceEqDiff, Nat.reduceAdd, Nat.reduceSub, Nat.reduceMul, Nat.reduceLT, Nat.reduceLeDiff, Nat.reduceBEq, Nat.reduceDiv, Nat.reduceMod, Int.reduceToNat, Int.reduceNeg, Int.reduceAdd, Int.reduceSub, Int.reduceMul, Int.reduceEq, Int.reduceNe, Int.reduceLT, Int.reduceLE, Int.reduceGT, Int.reduceGE, h0, h3]
      refine callI_of ((grow_spec L.flatten.length htot _).mono ?_)
      rintro r M1 (⟨rfl, h2, rfl⟩ | ⟨id, h1, rfl, rfl⟩)
      · simp -implicitDefEqProofs (maxSteps := 1000000) (disch := omega) only [↓xsP, ↓vc_seq, xsQ, xsT, xsR, xsD, ↓reduceIte, reduceCtorEq, eq_self, ne_eq, imp_self, forall_const, Nat.reduceEqDiff, Nat.reduceAdd, Nat.reduceSub, Nat.reduceMul, Nat.reduceLT, Nat.reduceLeDiff, Nat.reduceBEq, Nat.reduceDiv, Nat.reduceMod, Int.reduceToNat, Int.reduceNeg, Int.reduceAdd, Int.reduceSub, Int.reduceMul, Int.reduceEq, Int.reduceNe, Int.reduceLT, Int.reduceLE, Int.reduceGT, Int.reduceGE, h0, h3]
        exact .inl (List.eq_nil_of_length_eq_zero h2)
      · simp -implicitDefEqProofs (maxSteps := 1000000) (disch := omega) only [↓xsP, ↓vc_seq, xsQ, xsT, xsR, xsD, ↓reduceIte, reduceCtorEq, eq_self, ne_eq, imp_self, forall_const, Nat.reduceEqDiff, Nat.reduceAdd, Nat.reduceSub, Nat.reduceMul, Nat.reduceLT, Nat.reduceLeDiff, Nat.reduceBEq, Nat.reduceDiv, Nat.reduceMod, Int.reduceToNat, Int.reduceNeg, Int.reduceAdd, Int.reduceSub, Int.reduceMul, Int.reduceEq, Int.reduceNe, Int.reduceLT, Int.reduceLE, Int.reduceGT, Int.reduceGE, h0, h3]
        exact .inr ⟨id, _, h1, rfl, rfl⟩
    · clear h0 h3
      rintro fr M1 ⟨h0, hst⟩
      simp -implicitDefEqProofs (maxSteps := 1000000) (disch := omega) only [↓xsP, ↓vc_seq, xsQ, xsT, xsR, xsD, ↓reduceIte, reduceCtorEq, eq_self, ne_eq, imp_self, forall_const, Nat.reduceEqDiff, Nat.reduceAdd, Nat.reduceSub, Nat.reduceMul, Nat.reduceLT, Nat.reduceLeDiff, Nat.reduceBEq, Nat.reduceDiv, Nat.reduceMod, Int.reduceToNat, Int.reduceNeg, Int.reduceAdd, Int.reduceSub, Int.reduceMul, Int.reduceEq, Int.reduceNe, Int.reduceLT, Int.reduceLE, Int.reduceGT, Int.reduceGE, h0]
      refine loopI_of (xloop (by kernel_rfl) (fun k fr M' => ∃ i : Nat, i ≤ L.length ∧ k = L.length - i ∧ fr 25 = .l (.ms ids 0 L.length) ∧ fr 26 = .l (.int .i64 L.length) ∧ fr 27 = .l (.int .i64 i) ∧
        ((L.flatten = [] ∧ fr 6 = .l .nils ∧ M' = N) ∨ ∃ idR rows, (∀ j, idR ≤ j → N j = none) ∧ fr 6 = .l (.ms idR 0 (L.take i).flatten.length) ∧ M' = N.set idR (.cells 32 rows 0) ∧ rows.take (L.take i).flatten.length = (L.take i).flatten.map Pr.row ∧ (L.take i).flatten.length ≤ rows.length)) L.length ?_ ?_)
      · refine ⟨0, Nat.zero_le _, rfl, by simp -implicitDefEqProofs (maxSteps := 1000000) (disch := omega) only [↓xsP, ↓vc_seq, xsQ, xsT, xsR, xsD, ↓reduceIte, reduceCtorEq, eq_self, ne_eq, imp_self, forall_const, Nat.reduceEqDiff, Nat.reduceAdd, Nat.reduceSub, Nat.reduceMul, Nat.reduceLT, Nat.reduceLeDiff, Nat.reduceBEq, Nat.reduceDiv, Nat.reduceMod, Int.reduceToNat, Int.reduceNeg, Int.reduceAdd, Int.reduceSub, Int.reduceMul, Int.reduceEq, Int.reduceNe, Int.reduceLT, Int.reduceLE, Int.reduceGT, Int.reduceGE], by simp -implicitDefEqProofs (maxSteps := 1000000) (disch := omega) only [↓xsP, ↓vc_seq, xsQ, xsT, xsR, xsD, ↓reduceIte, reduceCtorEq, eq_self, ne_eq, imp_self, forall_const, Nat.reduceEqDiff, Nat.reduceAdd, Nat.reduceSub, Nat.reduceMul, Nat.reduceLT, Nat.reduceLeDiff, Nat.reduceBEq, Nat.reduceDiv, Nat.reduceMod, Int.reduceToNat, Int.reduceNeg, Int.reduceAdd, Int.reduceSub, Int.reduceMul, Int.reduceEq, Int.reduceNe, Int.reduceLT, Int.reduceLE, Int.reduceGT, Int.reduceGE], by simp -implicitDefEqProofs (maxSteps := 1000000) (disch := omega) only [↓xsP, ↓vc_seq, xsQ, xsT, xsR, xsD, ↓reduceIte, reduceCtorEq, eq_self, ne_eq, imp_self, forall_const, Nat.reduceEqDiff, Nat.reduceAdd, Nat.reduceSub, Nat.reduceMul, Nat.reduceLT, Nat.reduceLeDiff, Nat.reduceBEq, Nat.reduceDiv, Nat.reduceMod, Int.reduceToNat, Int.reduceNeg, Int.reduceAdd, Int.reduceSub, Int.reduceMul, Int.reduceEq, Int.reduceNe, Int.reduceLT, Int.reduceLE, Int.reduceGT, Int.reduceGE, Int.cast_ofNat_Int], ?_⟩
        rcases hst with ⟨h1, h2, h3⟩ | ⟨idR, rows, h1, h2, h3⟩
        · exact .inl ⟨h1, by simp -implicitDefEqProofs (maxSteps := 1000000) (disch := omega) only [↓xsP, ↓vc_seq, xsQ, xsT, xsR, xsD, ↓reduceIte, reduceCtorEq, eq_self, ne_eq, imp_self, forall_const, Nat.reduceEqDiff, Nat.reduceAdd, Nat.reduceSub, Nat.reduceMul, Nat.reduceLT, Nat.reduceLeDiff, Nat.reduceBEq, Nat.reduceDiv, Nat.reduceMod, Int.reduceToNat, Int.reduceNeg, Int.reduceAdd, Int.reduceSub, Int.reduceMul, Int.reduceEq, Int.reduceNe, Int.reduceLT, Int.reduceLE, Int.reduceGT, Int.reduceGE, h2], h3⟩
        · exact .inr ⟨idR, rows, h1, by simp -implicitDefEqProofs (maxSteps := 1000000) (disch := omega) only [↓xsP, ↓vc_seq, xsQ, xsT, xsR, xsD, ↓reduceIte, reduceCtorEq, eq_self, ne_eq, imp_self, forall_const, Nat.reduceEqDiff, Nat.reduceAdd, Nat.reduceSub, Nat.reduceMul, Nat.reduceLT, Nat.reduceLeDiff, Nat.reduceBEq, Nat.reduceDiv, Nat.reduceMod, Int.reduceToNat, Int.reduceNeg, Int.reduceAdd, Int.reduceSub, Int.reduceMul, Int.reduceEq, Int.reduceNe, Int.reduceLT, Int.reduceLE, Int.reduceGT, Int.reduceGE, h2], h3, rfl, Nat.zero_le _⟩
      · rintro k fr M' ⟨i, hi, rfl, h25, h26, h27, hst⟩
        simp -implicitDefEqProofs (maxSteps := 1000000) (disch := omega) only [↓xsP, ↓vc_seq, xsQ, xsT, xsR, xsD, ↓reduceIte, reduceCtorEq, eq_self, ne_eq, imp_self, forall_const, Nat.reduceEqDiff, Nat.reduceAdd, Nat.reduceSub, Nat.reduceMul, Nat.reduceLT, Nat.reduceLeDiff, Nat.reduceBEq, Nat.reduceDiv, Nat.reduceMod, Int.reduceToNat, Int.reduceNeg, Int.reduceAdd, Int.reduceSub, Int.reduceMul, Int.reduceEq, Int.reduceNe, Int.reduceLT, Int.reduceLE, Int.reduceGT, Int.reduceGE, h25, h26, h27]
        refine condI_prop (fun hlt => ?_) (fun hlt => ?_)
        · have hi' : i < L.length := by omega
          have hg := hget i hi'
          have hs := hsrc i hi'
          have ht := tot_take hi'
          have htl := tot_le L (i + 1)
          rw [ht, List.length_append] at htl
          rcases hst with ⟨h1, h6, rfl⟩ | ⟨idR, rows, h1, h6, rfl, h7, h8⟩
          · have hLi : L.getD i [] = [] := by
              rw [h1] at htl
              simp only [List.length_nil] at htl
              exact List.eq_nil_of_length_eq_zero (by omega)
            rw [hLi] at hs
            simp -implicitDefEqProofs (maxSteps := 1000000) (disch := omega) only [↓xsP, ↓vc_seq, xsQ, xsT, xsR, xsD, ↓reduceIte, reduceCtorEq, eq_self, ne_eq, imp_self, forall_const, Nat.reduceEqDiff, Nat.reduceAdd, Nat.reduceSub, Nat.reduceMul, Nat.reduceLT, Nat.reduceLeDiff, Nat.reduceBEq, Nat.reduceDiv, Nat.reduceMod, Int.reduceToNat, Int.reduceNeg, Int.reduceAdd, Int.reduceSub, Int.reduceMul, Int.reduceEq, Int.reduceNe, Int.reduceLT, Int.reduceLE, Int.reduceGT, Int.reduceGE, h25, h26, h27, hM, hg, h6]
            refine app_src_nil hs ?_
            simp -implicitDefEqProofs (maxSteps := 1000000) (disch := omega) only [↓xsP, ↓vc_seq, xsQ, xsT, xsR, xsD, ↓reduceIte, reduceCtorEq, eq_self, ne_eq, imp_self, forall_const, Nat.reduceEqDiff, Nat.reduceAdd, Nat.reduceSub, Nat.reduceMul, Nat.reduceLT, Nat.reduceLeDiff, Nat.reduceBEq, Nat.reduceDiv, Nat.reduceMod, Int.reduceToNat, Int.reduceNeg, Int.reduceAdd, Int.reduceSub, Int.reduceMul, Int.reduceEq, Int.reduceNe, Int.reduceLT, Int.reduceLE, Int.reduceGT, Int.reduceGE, h25, h26, h27, h6]
            exact ⟨L.length - (i + 1), M', by omega, Mem.le_refl _, i + 1, by omega, rfl, by simp, .inl ⟨h1, rfl⟩⟩
          · have hltR : ids < idR := lt_of_bnd h1 hM
            have hM2 : (N.set idR (.cells 32 rows 0)) ids = some (.cells 22 (srcs.map fun s => [s]) keep) := by rw [Mem.set_ne _ _ _ _ (by omega)]; exact hM
            simp -implicitDefEqProofs (maxSteps := 1000000) (disch := omega) only [↓xsP, ↓vc_seq, xsQ, xsT, xsR, xsD, ↓reduceIte, reduceCtorEq, eq_self, ne_eq, imp_self, forall_const, Nat.reduceEqDiff, Nat.reduceAdd, Nat.reduceSub, Nat.reduceMul, Nat.reduceLT, Nat.reduceLeDiff, Nat.reduceBEq, Nat.reduceDiv, Nat.reduceMod, Int.reduceToNat, Int.reduceNeg, Int.reduceAdd, Int.reduceSub, Int.reduceMul, Int.reduceEq, Int.reduceNe, Int.reduceLT, Int.reduceLE, Int.reduceGT, Int.reduceGE, h25, h26, h27, hM, hg, h6]
            have hs' : SrcIs (N.set idR (.cells 32 rows 0)) (srcs.getD i .nils) (L.getD i []) := hs.le (le_new (Mem.le_refl _) h1)
            refine app_src hs' (Mem.set_eq _ _ _) h8 (Nat.zero_le _) (by omega) fun id' hid' => ?_
            obtain ⟨hRi, hid'⟩ := bnd_new hid'
            simp -implicitDefEqProofs (maxSteps := 1000000) (disch := omega) only [↓xsP, ↓vc_seq, xsQ, xsT, xsR, xsD, ↓reduceIte, reduceCtorEq, eq_self, ne_eq, imp_self, forall_const, Nat.reduceEqDiff, Nat.reduceAdd, Nat.reduceSub, Nat.reduceMul, Nat.reduceLT, Nat.reduceLeDiff, Nat.reduceBEq, Nat.reduceDiv, Nat.reduceMod, Int.reduceToNat, Int.reduceNeg, Int.reduceAdd, Int.reduceSub, Int.reduceMul, Int.reduceEq, Int.reduceNe, Int.reduceLT, Int.reduceLE, Int.reduceGT, Int.reduceGE, h25, h26, h27, h6]
            refine ⟨L.length - (i + 1), N.set id' (.cells 32 (rows.take (L.take i).flatten.length ++ (L.getD i []).map Pr.row) 0), by omega, le_clone (h1 _ (Nat.le_refl _)), i + 1, by omega, rfl, by simp, .inr ⟨id', _, hid', by rw [ht, List.length_append], rfl, ?_, ?_⟩⟩
            · rw [h7, ht, List.map_append, List.take_of_length_le (by simp only [List.length_append, List.length_map]; exact Nat.le_refl _)]
            · rw [h7, ht]
              simp only [List.length_append, List.length_map]
              exact Nat.le_refl _
        · simp -implicitDefEqProofs (maxSteps := 1000000) (disch := omega) only [↓xsP, ↓vc_seq, xsQ, xsT, xsR, xsD, ↓reduceIte, reduceCtorEq, eq_self, ne_eq, imp_self, forall_const, Nat.reduceEqDiff, Nat.reduceAdd, Nat.reduceSub, Nat.reduceMul, Nat.reduceLT, Nat.reduceLeDiff, Nat.reduceBEq, Nat.reduceDiv, Nat.reduceMod, Int.reduceToNat, Int.reduceNeg, Int.reduceAdd, Int.reduceSub, Int.reduceMul, Int.reduceEq, Int.reduceNe, Int.reduceLT, Int.reduceLE, Int.reduceGT, Int.reduceGE, h25, h26, h27]
          have hil : i = L.length := by omega
          subst hil
          rw [List.take_length] at hst
          rcases hst with ⟨h1, h6, rfl⟩ | ⟨idR, rows, h1, h6, rfl, h7, h8⟩
          · simp -implicitDefEqProofs (maxSteps := 1000000) (disch := omega) only [↓xsP, ↓vc_seq, xsQ, xsT, xsR, xsD, ↓reduceIte, reduceCtorEq, eq_self, ne_eq, imp_self, forall_const, Nat.reduceEqDiff, Nat.reduceAdd, Nat.reduceSub, Nat.reduceMul, Nat.reduceLT, Nat.reduceLeDiff, Nat.reduceBEq, Nat.reduceDiv, Nat.reduceMod, Int.reduceToNat, Int.reduceNeg, Int.reduceAdd, Int.reduceSub, Int.reduceMul, Int.reduceEq, Int.reduceNe, Int.reduceLT, Int.reduceLE, Int.reduceGT, Int.reduceGE, h6]
            refine finI_of (XFin.wk (XFin.here ⟨?_, rfl⟩))
            rw [h1]
            rfl
          · simp -implicitDefEqProofs (maxSteps := 1000000) (disch := omega) only [↓xsP, ↓vc_seq, xsQ, xsT, xsR, xsD, ↓reduceIte, reduceCtorEq, eq_self, ne_eq, imp_self, forall_const, Nat.reduceEqDiff, Nat.reduceAdd, Nat.reduceSub, Nat.reduceMul, Nat.reduceLT, Nat.reduceLeDiff, Nat.reduceBEq, Nat.reduceDiv, Nat.reduceMod, Int.reduceToNat, Int.reduceNeg, Int.reduceAdd, Int.reduceSub, Int.reduceMul, Int.reduceEq, Int.reduceNe, Int.reduceLT, Int.reduceLE, Int.reduceGT, Int.reduceGE, h6]
            refine finI_of (XFin.frz idR (Mem.set_eq _ _ _) (XFin.le ?_ ⟨?_, rfl⟩))
            · exact le_new (le_new (Mem.le_refl _) h1) h1
            · simp only [frzA, frz1, frzL, Nat.zero_add, List.drop_zero, h8, h7, eq_self, and_self, if_true]
end Go.X
set_option linter.unusedVariables false
set_option linter.unusedSimpArgs false
set_option maxHeartbeats 20000000
set_option maxRecDepth 100000
namespace Go.X
open Go.Proofs.Tryd (prog)

/-- How many pairs at the front have lesser keys. -/
def wat (k : Int) : List Pr → Nat
  | [] => 0
  | x :: r => if x.key < k then wat k r + 1 else 0
theorem wat_eq (k : Int) : ∀ (l : List Pr) (i : Nat), (∀ j, j < i → j < l.length → (l.getD j default).key < k) → i ≤ l.length → (i < l.length → ¬ (l.getD i default).key < k) → wat k l = i
  | [], i, _, hi, _ => by simp at hi; subst hi; rfl
  | x :: r, 0, _, _, h => by
    have := h (by simp)
    simp only [List.getD_cons_zero] at this
    simp only [wat, if_neg this]
  | x :: r, i + 1, h1, hi, h2 => by
    have h0 := h1 0 (by omega) (by simp)
    simp only [List.getD_cons_zero] at h0
    simp only [wat, if_pos h0]
    rw [wat_eq k r i (fun j hj hj2 => by simpa using h1 (j + 1) (by omega) (by simpa using hj2)) (by simpa using hi) (fun h => by simpa using h2 (by simpa using h))]
def withRest (l : List Pr) (p : Pr) : List Pr := match l.drop (wat p.key l) with
  | [] => []
  | x :: r => if x.key = p.key then r else x :: r
def withL (l : List Pr) (p : Pr) : List Pr := l.take (wat p.key l) ++ [p] ++ withRest l p
theorem withRest_len (l : List Pr) (p : Pr) : (withRest l p).length ≤ l.length - wat p.key l := by
  have : (l.drop (wat p.key l)).length = l.length - wat p.key l := by simp
  unfold withRest
  split
  · simp
  · rename_i x r h
    rw [h] at this
    simp only [List.length_cons] at this
    split
    · omega
    · simp only [List.length_cons]; omega

theorem with_spec (l : List Pr) (hl : l.length ≤ 8796093022207) (p : Pr) (M : Mem) :
    XCalls Go.Proofs.Tryd.prog 67 [.l (.sl (l.map Pr.row)), .agg p.row] M fun r M' => r = .l (.sl ((withL l p).map Pr.row)) ∧ M' = M := by
  refine xcalls_intro (rs := [.tmp 4]) Go.Proofs.Tryd.func67 rfl (by kernel_rfl) rfl rfl (by kernel_rfl) (by simp) ?_
  refine vc_seq_of ?_
  simp -implicitDefEqProofs (maxSteps := 1000000) (disch := omega) only [↓xsP, xsQ, xsT, xsR, xsD, ↓reduceIte, reduceCtorEq, eq_self, ne_eq, imp_self, forall_const, Nat.reduceEqDiff, Nat.reduceAdd, Nat.reduceSub, Nat.reduceMul, Nat.reduceLT, Nat.reduceLeDiff, Nat.reduceBEq, Nat.reduceDiv, Nat.reduceMod, Int.reduceToNat, Int.reduceNeg, Int.reduceAdd, Int.reduceSub, Int.reduceMul, Int.reduceEq, Int.reduceNe, Int.reduceLT, Int.reduceLE, Int.reduceGT, Int.reduceGE]
  refine newI_intro fun id3 hid3 => ?_
  simp -implicitDefEqProofs (maxSteps := 1000000) (disch := omega) only [↓xsP, xsQ, xsT, xsR, xsD, ↓reduceIte, reduceCtorEq, eq_self, ne_eq, imp_self, forall_const, Nat.reduceEqDiff, Nat.reduceAdd, Nat.reduceSub, Nat.reduceMul, Nat.reduceLT, Nat.reduceLeDiff, Nat.reduceBEq, Nat.reduceDiv, Nat.reduceMod, Int.reduceToNat, Int.reduceNeg, Int.reduceAdd, Int.reduceSub, Int.reduceMul, Int.reduceEq, Int.reduceNe, Int.reduceLT, Int.reduceLE, Int.reduceGT, Int.reduceGE]
  have hM3 := Mem.set_eq M id3 (.cells 32 [p.row] 0)
  have hMN : M.le (M.set id3 (.cells 32 [p.row] 0)) := le_new (Mem.le_refl _) hid3
  refine vc_seq_of ?_
  simp -implicitDefEqProofs (maxSteps := 1000000) (disch := omega) only [↓xsP, xsQ, xsT, xsR, xsD, ↓reduceIte, reduceCtorEq, eq_self, ne_eq, imp_self, forall_const, Nat.reduceEqDiff, Nat.reduceAdd, Nat.reduceSub, Nat.reduceMul, Nat.reduceLT, Nat.reduceLeDiff, Nat.reduceBEq, Nat.reduceDiv, Nat.reduceMod, Int.reduceToNat, Int.reduceNeg, Int.reduceAdd, Int.reduceSub, Int.reduceMul, Int.reduceEq, Int.reduceNe, Int.reduceLT, Int.reduceLE, Int.reduceGT, Int.reduceGE]
  refine vc_cut (fun fr N => N = M.set id3 (.cells 32 [p.row] 0) ∧ fr 0 = .l (.sl (l.map Pr.row)) ∧ fr 3 = .l (.ptr id3 0 0) ∧ fr 5 = .l (.int .i64 (wat p.key l)) ∧ wat p.key l ≤ l.length) ?_ ?_
  · simp -implicitDefEqProofs (maxSteps := 1000000) (disch := omega) only [↓xsP, ↓vc_seq, xsQ, xsT, xsR, xsD, ↓reduceIte, reduceCtorEq, eq_self, ne_eq, imp_self, forall_const, Nat.reduceEqDiff, Nat.reduceAdd, Nat.reduceSub, Nat.reduceMul, Nat.reduceLT, Nat.reduceLeDiff, Nat.reduceBEq, Nat.reduceDiv, Nat.reduceMod, Int.reduceToNat, Int.reduceNeg, Int.reduceAdd, Int.reduceSub, Int.reduceMul, Int.reduceEq, Int.reduceNe, Int.reduceLT, Int.reduceLE, Int.reduceGT, Int.reduceGE]
    refine loopI_of (xloop (by kernel_rfl) (fun k fr M' => ∃ i : Nat, i ≤ l.length ∧ k = l.length - i ∧ fr 0 = .l (.sl (l.map Pr.row)) ∧ fr 3 = .l (.ptr id3 0 0) ∧ fr 5 = .l (.int .i64 i) ∧ (∀ j, j < i → j < l.length → (l.getD j default).key < p.key) ∧ M' = M.set id3 (.cells 32 [p.row] 0)) l.length ?_ ?_)
    · exact ⟨0, Nat.zero_le _, rfl, by simp -implicitDefEqProofs (maxSteps := 1000000) (disch := omega) only [↓xsP, ↓vc_seq, xsQ, xsT, xsR, xsD, ↓reduceIte, reduceCtorEq, eq_self, ne_eq, imp_self, forall_const, Nat.reduceEqDiff, Nat.reduceAdd, Nat.reduceSub, Nat.reduceMul, Nat.reduceLT, Nat.reduceLeDiff, Nat.reduceBEq, Nat.reduceDiv, Nat.reduceMod, Int.reduceToNat, Int.reduceNeg, Int.reduceAdd, Int.reduceSub, Int.reduceMul, Int.reduceEq, Int.reduceNe, Int.reduceLT, Int.reduceLE, Int.reduceGT, Int.reduceGE], by simp -implicitDefEqProofs (maxSteps := 1000000) (disch := omega) only [↓xsP, ↓vc_seq, xsQ, xsT, xsR, xsD, ↓reduceIte, reduceCtorEq, eq_self, ne_eq, imp_self, forall_const, Nat.reduceEqDiff, Nat.reduceAdd, Nat.reduceSub, Nat.reduceMul, Nat.reduceLT, Nat.reduceLeDiff, Nat.reduceBEq, Nat.reduceDiv, Nat.reduceMod, Int.reduceToNat, Int.reduceNeg, Int.reduceAdd, Int.reduceSub, Int.reduceMul, Int.reduceEq, Int.reduceNe, Int.reduceLT, Int.reduceLE, Int.reduceGT, Int.reduceGE], by simp -implicitDefEqProofs (maxSteps := 1000000) (disch := omega) only [↓xsP, ↓vc_seq, xsQ, xsT, xsR, xsD, ↓reduceIte, reduceCtorEq, eq_self, ne_eq, imp_self, forall_const, Nat.reduceEqDiff, Nat.reduceAdd, Nat.reduceSub, Nat.reduceMul, Nat.reduceLT, Nat.reduceLeDiff, Nat.reduceBEq, Nat.reduceDiv, Nat.reduceMod, Int.reduceToNat, Int.reduceNeg, Int.reduceAdd, Int.reduceSub, Int.reduceMul, Int.reduceEq, Int.reduceNe, Int.reduceLT, Int.reduceLE, Int.reduceGT, Int.reduceGE, Int.cast_ofNat_Int], fun j h => by omega, rfl⟩
    · rintro k fr M' ⟨i, hi, rfl, h0, h3, h5, hlow, rfl⟩
      simp -implicitDefEqProofs (maxSteps := 1000000) (disch := omega) only [↓xsP, ↓vc_seq, xsQ, xsT, xsR, xsD, ↓reduceIte, reduceCtorEq, eq_self, ne_eq, imp_self, forall_const, Nat.reduceEqDiff, Nat.reduceAdd, Nat.reduceSub, Nat.reduceMul, Nat.reduceLT, Nat.reduceLeDiff, Nat.reduceBEq, Nat.reduceDiv, Nat.reduceMod, Int.reduceToNat, Int.reduceNeg, Int.reduceAdd, Int.reduceSub, Int.reduceMul, Int.reduceEq, Int.reduceNe, Int.reduceLT, Int.reduceLE, Int.reduceGT, Int.reduceGE, h0, h3, h5]
      refine xquiet (by kernel_rfl) (by kernel_rfl) (by kernel_rfl) ?_
      simp -implicitDefEqProofs (maxSteps := 1000000) (disch := omega) only [↓xsP, ↓vc_seq, xsQ, xsT, xsR, xsD, ↓reduceIte, reduceCtorEq, eq_self, ne_eq, imp_self, forall_const, Nat.reduceEqDiff, Nat.reduceAdd, Nat.reduceSub, Nat.reduceMul, Nat.reduceLT, Nat.reduceLeDiff, Nat.reduceBEq, Nat.reduceDiv, Nat.reduceMod, Int.reduceToNat, Int.reduceNeg, Int.reduceAdd, Int.reduceSub, Int.reduceMul, Int.reduceEq, Int.reduceNe, Int.reduceLT, Int.reduceLE, Int.reduceGT, Int.reduceGE, h0, h3, h5]
      refine gI_prop (fun hlt => ?_) (fun hlt => ?_)
      · simp -implicitDefEqProofs (maxSteps := 1000000) (disch := omega) only [↓xsP, ↓vc_seq, xsQ, xsT, xsR, xsD, ↓reduceIte, reduceCtorEq, eq_self, ne_eq, imp_self, forall_const, Nat.reduceEqDiff, Nat.reduceAdd, Nat.reduceSub, Nat.reduceMul, Nat.reduceLT, Nat.reduceLeDiff, Nat.reduceBEq, Nat.reduceDiv, Nat.reduceMod, Int.reduceToNat, Int.reduceNeg, Int.reduceAdd, Int.reduceSub, Int.reduceMul, Int.reduceEq, Int.reduceNe, Int.reduceLT, Int.reduceLE, Int.reduceGT, Int.reduceGE, h0, h3, h5, hlt]
        refine condI_prop (fun hk => ?_) (fun hk => ?_)
        · simp -implicitDefEqProofs (maxSteps := 1000000) (disch := omega) only [↓xsP, ↓vc_seq, xsQ, xsT, xsR, xsD, ↓reduceIte, reduceCtorEq, eq_self, ne_eq, imp_self, forall_const, Nat.reduceEqDiff, Nat.reduceAdd, Nat.reduceSub, Nat.reduceMul, Nat.reduceLT, Nat.reduceLeDiff, Nat.reduceBEq, Nat.reduceDiv, Nat.reduceMod, Int.reduceToNat, Int.reduceNeg, Int.reduceAdd, Int.reduceSub, Int.reduceMul, Int.reduceEq, Int.reduceNe, Int.reduceLT, Int.reduceLE, Int.reduceGT, Int.reduceGE, h0, h3, h5]
          refine ⟨l.length - (i + 1), _, by omega, Mem.le_refl _, i + 1, by omega, rfl, by simp, fun j h1 h2 => ?_, rfl⟩
          by_cases e : j = i
          · subst e; exact hk
          · exact hlow j (by omega) h2
        · simp -implicitDefEqProofs (maxSteps := 1000000) (disch := omega) only [↓xsP, ↓vc_seq, xsQ, xsT, xsR, xsD, ↓reduceIte, reduceCtorEq, eq_self, ne_eq, imp_self, forall_const, Nat.reduceEqDiff, Nat.reduceAdd, Nat.reduceSub, Nat.reduceMul, Nat.reduceLT, Nat.reduceLeDiff, Nat.reduceBEq, Nat.reduceDiv, Nat.reduceMod, Int.reduceToNat, Int.reduceNeg, Int.reduceAdd, Int.reduceSub, Int.reduceMul, Int.reduceEq, Int.reduceNe, Int.reduceLT, Int.reduceLE, Int.reduceGT, Int.reduceGE, h0, h3, h5]
          have hw := wat_eq p.key l i hlow hi (fun _ => hk)
          rw [hw]
          simp [hi, Pr.row]
      · simp -implicitDefEqProofs (maxSteps := 1000000) (disch := omega) only [↓xsP, ↓vc_seq, xsQ, xsT, xsR, xsD, ↓reduceIte, reduceCtorEq, eq_self, ne_eq, imp_self, forall_const, Nat.reduceEqDiff, Nat.reduceAdd, Nat.reduceSub, Nat.reduceMul, Nat.reduceLT, Nat.reduceLeDiff, Nat.reduceBEq, Nat.reduceDiv, Nat.reduceMod, Int.reduceToNat, Int.reduceNeg, Int.reduceAdd, Int.reduceSub, Int.reduceMul, Int.reduceEq, Int.reduceNe, Int.reduceLT, Int.reduceLE, Int.reduceGT, Int.reduceGE, h0, h3, h5, hlt]
        have hw := wat_eq p.key l i hlow hi (fun h => by omega)
        rw [hw]
        simp [hi, Pr.row]
  · rintro fr N ⟨rfl, h0, h3, h5, hwl⟩
    have hwr : withRest l p = match l.drop (wat p.key l) with
      | [] => []
      | x :: r => if x.key = p.key then r else x :: r := rfl
    have hwlen := withRest_len l p
    have hwe : withL l p = l.take (wat p.key l) ++ [p] ++ withRest l p := rfl
    generalize wat p.key l = w at h5 hwl hwr hwlen hwe
    generalize withRest l p = rest at hwr hwlen hwe
    have hw0 : (0 ≤ (w : Int)) = True := eq_true (by omega)
    have hwle : (w ≤ l.length) = True := eq_true hwl
    have hrows : (∀ r, r ∈ l.map Pr.row → r.length = 2) = True := eq_true (rows2 l)
    have hdr : List.take (l.length - w) (List.drop w (l.map Pr.row)) = (l.drop w).map Pr.row := by
      rw [List.take_of_length_le (by simp), List.map_drop]
    have hM3' : (M.set id3 (.cells 32 [p.row] 0)) id3 = some (.cells 32 [p.row] 0) := Mem.set_eq _ _ _
    generalize M.set id3 (.cells 32 [p.row] 0) = N at hMN hM3' ⊢
    refine vc_cut (fun fr N' => N' = N ∧ fr 0 = .l (.sl (l.map Pr.row)) ∧ fr 3 = .l (.ptr id3 0 0) ∧ fr 5 = .l (.int .i64 w) ∧ fr 6 = .l (.sl ((l.drop w).map Pr.row))) ?_ ?_
    · simp -implicitDefEqProofs (maxSteps := 1000000) (disch := omega) only [↓xsP, ↓vc_seq, xsQ, xsT, xsR, xsD, ↓reduceIte, reduceCtorEq, eq_self, ne_eq, imp_self, forall_const, Nat.reduceEqDiff, Nat.reduceAdd, Nat.reduceSub, Nat.reduceMul, Nat.reduceLT, Nat.reduceLeDiff, Nat.reduceBEq, Nat.reduceDiv, Nat.reduceMod, Int.reduceToNat, Int.reduceNeg, Int.reduceAdd, Int.reduceSub, Int.reduceMul, Int.reduceEq, Int.reduceNe, Int.reduceLT, Int.reduceLE, Int.reduceGT, Int.reduceGE, h0, h3, h5, hw0, hwle, hrows, hdr]
    · clear h0 h3 h5
      rintro fr N' ⟨rfl, h0, h3, h5, h6⟩
      have hwr2 : rest = match l.drop w with
        | [] => []
        | x :: r => if x.key = p.key then r else x :: r := hwr
      have hwd : (l.drop w).length ≤ 8796093022207 := by simp; omega
      clear hwr hdr
      generalize l.drop w = d at h6 hwr2 hwd
      refine vc_cut (fun fr N => N = N' ∧ fr 0 = .l (.sl (l.map Pr.row)) ∧ fr 3 = .l (.ptr id3 0 0) ∧ fr 5 = .l (.int .i64 w) ∧ fr 6 = .l (.sl (rest.map Pr.row))) ?_ ?_
      · by_cases hd : d = []
        · subst hd
          have hr0 : rest = [] := hwr2
          have hd0 : ((([] : List Pr).length : Int) > 0) = False := eq_false (by simp)
          simp -implicitDefEqProofs (maxSteps := 1000000) (disch := omega) only [↓xsP, ↓vc_seq, xsQ, xsT, xsR, xsD, ↓reduceIte, reduceCtorEq, eq_self, ne_eq, imp_self, forall_const, Nat.reduceEqDiff, Nat.reduceAdd, Nat.reduceSub, Nat.reduceMul, Nat.reduceLT, Nat.reduceLeDiff, Nat.reduceBEq, Nat.reduceDiv, Nat.reduceMod, Int.reduceToNat, Int.reduceNeg, Int.reduceAdd, Int.reduceSub, Int.reduceMul, Int.reduceEq, Int.reduceNe, Int.reduceLT, Int.reduceLE, Int.reduceGT, Int.reduceGE, h0, h3, h5, h6]
          refine xquiet (by kernel_rfl) (by kernel_rfl) (by kernel_rfl) ?_
          simp -implicitDefEqProofs (maxSteps := 1000000) (disch := omega) only [↓xsP, ↓vc_seq, xsQ, xsT, xsR, xsD, ↓reduceIte, reduceCtorEq, eq_self, ne_eq, imp_self, forall_const, Nat.reduceEqDiff, Nat.reduceAdd, Nat.reduceSub, Nat.reduceMul, Nat.reduceLT, Nat.reduceLeDiff, Nat.reduceBEq, Nat.reduceDiv, Nat.reduceMod, Int.reduceToNat, Int.reduceNeg, Int.reduceAdd, Int.reduceSub, Int.reduceMul, Int.reduceEq, Int.reduceNe, Int.reduceLT, Int.reduceLE, Int.reduceGT, Int.reduceGE, h0, h3, h5, h6, Int.cast_ofNat_Int]
          rw [hr0]
          rfl
        · have hpos : 0 < d.length := List.length_pos_iff.2 hd
          have hd1 : ((d.length : Int) > 0) = True := eq_true (by omega)
          have hwr3 : rest = if (d.getD 0 default).key = p.key then d.drop 1 else d := by
            rw [hwr2]
            cases d with
            | nil => exact absurd rfl hd
            | cons x r => rfl
          have hrows2 : (∀ r, r ∈ d.map Pr.row → r.length = 2) = True := eq_true (rows2 d)
          have hdr : List.take (d.length - 1) (List.drop 1 (d.map Pr.row)) = (d.drop 1).map Pr.row := by
            rw [List.take_of_length_le (by simp), List.map_drop]
          have h1le : (1 ≤ d.length) = True := eq_true (by omega)
          simp -implicitDefEqProofs (maxSteps := 1000000) (disch := omega) only [↓xsP, ↓vc_seq, xsQ, xsT, xsR, xsD, ↓reduceIte, reduceCtorEq, eq_self, ne_eq, imp_self, forall_const, Nat.reduceEqDiff, Nat.reduceAdd, Nat.reduceSub, Nat.reduceMul, Nat.reduceLT, Nat.reduceLeDiff, Nat.reduceBEq, Nat.reduceDiv, Nat.reduceMod, Int.reduceToNat, Int.reduceNeg, Int.reduceAdd, Int.reduceSub, Int.reduceMul, Int.reduceEq, Int.reduceNe, Int.reduceLT, Int.reduceLE, Int.reduceGT, Int.reduceGE, h0, h3, h5, h6]
          refine xquiet (by kernel_rfl) (by kernel_rfl) (by kernel_rfl) ?_
          simp -implicitDefEqProofs (maxSteps := 1000000) (disch := omega) only [↓xsP, ↓vc_seq, xsQ, xsT, xsR, xsD, ↓reduceIte, reduceCtorEq, eq_self, ne_eq, imp_self, forall_const, Nat.reduceEqDiff, Nat.reduceAdd, Nat.reduceSub, Nat.reduceMul, Nat.reduceLT, Nat.reduceLeDiff, Nat.reduceBEq, Nat.reduceDiv, Nat.reduceMod, Int.reduceToNat, Int.reduceNeg, Int.reduceAdd, Int.reduceSub, Int.reduceMul, Int.reduceEq, Int.reduceNe, Int.reduceLT, Int.reduceLE, Int.reduceGT, Int.reduceGE, h0, h3, h5, h6, hd1, hM3']
          refine condI_prop (fun hk => ?_) (fun hk => ?_)
          · rw [if_pos hk] at hwr3
            simp -implicitDefEqProofs (maxSteps := 1000000) (disch := omega) only [↓xsP, ↓vc_seq, xsQ, xsT, xsR, xsD, ↓reduceIte, reduceCtorEq, eq_self, ne_eq, imp_self, forall_const, Nat.reduceEqDiff, Nat.reduceAdd, Nat.reduceSub, Nat.reduceMul, Nat.reduceLT, Nat.reduceLeDiff, Nat.reduceBEq, Nat.reduceDiv, Nat.reduceMod, Int.reduceToNat, Int.reduceNeg, Int.reduceAdd, Int.reduceSub, Int.reduceMul, Int.reduceEq, Int.reduceNe, Int.reduceLT, Int.reduceLE, Int.reduceGT, Int.reduceGE, h0, h3, h5, h6, hrows2, hdr, h1le]
            rw [hwr3]
          · rw [if_neg hk] at hwr3
            simp -implicitDefEqProofs (maxSteps := 1000000) (disch := omega) only [↓xsP, ↓vc_seq, xsQ, xsT, xsR, xsD, ↓reduceIte, reduceCtorEq, eq_self, ne_eq, imp_self, forall_const, Nat.reduceEqDiff, Nat.reduceAdd, Nat.reduceSub, Nat.reduceMul, Nat.reduceLT, Nat.reduceLeDiff, Nat.reduceBEq, Nat.reduceDiv, Nat.reduceMod, Int.reduceToNat, Int.reduceNeg, Int.reduceAdd, Int.reduceSub, Int.reduceMul, Int.reduceEq, Int.reduceNe, Int.reduceLT, Int.reduceLE, Int.reduceGT, Int.reduceGE, h0, h3, h5, h6]
            rw [hwr3]
      · clear h0 h3 h5 h6
        rintro fr N ⟨rfl, h0, h3, h5, h6⟩
        refine vc_seq_of ?_
        simp -implicitDefEqProofs (maxSteps := 1000000) (disch := omega) only [↓xsP, xsQ, xsT, xsR, xsD, ↓reduceIte, reduceCtorEq, eq_self, ne_eq, imp_self, forall_const, Nat.reduceEqDiff, Nat.reduceAdd, Nat.reduceSub, Nat.reduceMul, Nat.reduceLT, Nat.reduceLeDiff, Nat.reduceBEq, Nat.reduceDiv, Nat.reduceMod, Int.reduceToNat, Int.reduceNeg, Int.reduceAdd, Int.reduceSub, Int.reduceMul, Int.reduceEq, Int.reduceNe, Int.reduceLT, Int.reduceLE, Int.reduceGT, Int.reduceGE, h0, h3, h5, h6]
        refine xwrite (fun n0 => [ ]) [] [4, 6] [[], [], [], [], [], [4], [], [], []] (by kernel_rfl) (by kernel_rfl) (by kernel_rfl) (by kernel_rfl) (fun n0 hn0 => ⟨rfl, ?_, ?_⟩)
        · exact TOk_nil _ _
        · have h3n : id3 < n0 := lt_of_bnd hn0 hM3'
          simp -implicitDefEqProofs (maxSteps := 1000000) (disch := omega) only [↓xsP, ↓vc_seq, xsQ, xsT, xsR, xsD, ↓reduceIte, reduceCtorEq, eq_self, ne_eq, imp_self, forall_const, Nat.reduceEqDiff, Nat.reduceAdd, Nat.reduceSub, Nat.reduceMul, Nat.reduceLT, Nat.reduceLeDiff, Nat.reduceBEq, Nat.reduceDiv, Nat.reduceMod, Int.reduceToNat, Int.reduceNeg, Int.reduceAdd, Int.reduceSub, Int.reduceMul, Int.reduceEq, Int.reduceNe, Int.reduceLT, Int.reduceLE, Int.reduceGT, Int.reduceGE, h0, h3, h5, h6, hM3', hw0, hwle, hrows, ← List.map_take]
          refine ⟨.inl (by decide), .inl (by decide), ?_⟩
          have hL : [l.take w, [p], rest].flatten = withL l p := by rw [hwe]; simp
          have htl : (l.take w).length ≤ l.length := by simp; omega
          refine wcallI_eff (v := .l (.sl ((withL l p).map Pr.row))) (e := []) (fun M' hle => ?_) ?_
          · have hc := concat_spec [l.take w, [p], rest] [.sl ((l.take w).map Pr.row), .ms (n0 + 4) 0 1, .sl (rest.map Pr.row)] rfl (by simp) (by rw [hL, hwe]; simp; omega) (n0 + 6) M' (hle _ _ (Mem.set_eq _ _ _)) (fun i hi => by
              match i, hi with
              | 0, _ => exact .inl rfl
              | 1, _ => exact .inr ⟨n0 + 4, 0, rfl, hle _ _ (by rw [Mem.set_ne _ _ _ _ (by omega)]; exact Mem.set_eq _ _ _)⟩
              | 2, _ => exact .inl rfl)
            rw [hL] at hc
            refine XCalls.mono hc ?_
            rintro _ _ ⟨rfl, rfl⟩
            exact ⟨rfl, Mem.le_refl _⟩
          · simp -implicitDefEqProofs (maxSteps := 1000000) (disch := omega) only [↓xsP, ↓vc_seq, xsQ, xsT, xsR, xsD, ↓reduceIte, reduceCtorEq, eq_self, ne_eq, imp_self, forall_const, Nat.reduceEqDiff, Nat.reduceAdd, Nat.reduceSub, Nat.reduceMul, Nat.reduceLT, Nat.reduceLeDiff, Nat.reduceBEq, Nat.reduceDiv, Nat.reduceMod, Int.reduceToNat, Int.reduceNeg, Int.reduceAdd, Int.reduceSub, Int.reduceMul, Int.reduceEq, Int.reduceNe, Int.reduceLT, Int.reduceLE, Int.reduceGT, Int.reduceGE]
            refine fin_ok (fun i x hx => ?_) ⟨rfl, rfl⟩
            have h1 := hMN _ _ hx
            have h2 := lt_of_bnd hn0 h1
            rw [Mem.set_ne _ _ _ _ (by omega), Mem.set_ne _ _ _ _ (by omega)]
            exact h1
end Go.X
set_option linter.unusedVariables false
set_option linter.unusedSimpArgs false
set_option maxHeartbeats 20000000
set_option maxRecDepth 100000
namespace Go.X
open Go.Proofs.Tryd (prog)

def place (l : List Pr) (k : Int) : Int := pidx (fun p => decide (p.key = k)) l 0
theorem place_cases (l : List Pr) (k : Int) : (place l k = -1 ∧ ∀ p ∈ l, p.key ≠ k) ∨ ∃ i : Nat, i < l.length ∧ place l k = i ∧ (l.getD i default).key = k ∧ ∀ p ∈ l.take i, p.key ≠ k := by
  rcases pidx_cases (fun p => decide (p.key = k)) l 0 with ⟨h1, h2⟩ | ⟨i, hi, h1, h2, h3⟩
  · exact .inl ⟨h1, fun p hp => by simpa using h2 p hp⟩
  · exact .inr ⟨i, hi, by rw [place, h1]; omega, by simpa using h2, fun p hp => by simpa using h3 p hp⟩
def ansAt (l : List Pr) (i : Int) : Ans := if 0 ≤ i then ⟨0, true, l.getD i.toNat default, 0, []⟩ else ans0
def oneL (l : List Pr) (op : Opn) : List Pr :=
  if op.kind = 1 ∨ (op.kind = 2 ∧ place l op.key < 0) then withL l ⟨op.key, op.val⟩
  else if op.kind = 3 ∧ 0 ≤ place l op.key then l.take (place l op.key).toNat ++ l.drop ((place l op.key).toNat + 1)
  else l
/-- An answer's cells, its pairs being nil. -/
def arow (a : Ans) : List Lf := [.int .i64 a.err, .bool a.ok, .int .i64 a.pair.key, .int .i64 a.pair.val, .int .i64 a.n, .nils]
theorem arow_wk (a : Ans) (h : a.pairs = []) : (arow a).map wkL = a.row := by simp [arow, wkL, Ans.row, h]
theorem ansAt_pairs (l : List Pr) (i : Int) : (ansAt l i).pairs = [] := by unfold ansAt; split <;> rfl
theorem one_spec (l : List Pr) (hl : l.length ≤ 8796093022207) (op : Opn) (M : Mem) :
    XCalls Go.Proofs.Tryd.prog 60 [.l (.sl (l.map Pr.row)), .agg op.row] M fun r M' => r = .tup [.l (.sl ((oneL l op).map Pr.row)), .agg (ansAt l (place l op.key)).row] ∧ M' = M := by
  refine xcalls_intro (rs := [.tmp 4, .cell 5 34]) Go.Proofs.Tryd.func60 rfl (by kernel_rfl) rfl rfl (by kernel_rfl) (by simp) ?_
  refine vc_seq_of ?_
  simp -implicitDefEqProofs (maxSteps := 1000000) (disch := omega) only [↓xsP, xsQ, xsT, xsR, xsD, ↓reduceIte, reduceCtorEq, eq_self, ne_eq, imp_self, forall_const, Nat.reduceEqDiff, Nat.reduceAdd, Nat.reduceSub, Nat.reduceMul, Nat.reduceLT, Nat.reduceLeDiff, Nat.reduceBEq, Nat.reduceDiv, Nat.reduceMod, Int.reduceToNat, Int.reduceNeg, Int.reduceAdd, Int.reduceSub, Int.reduceMul, Int.reduceEq, Int.reduceNe, Int.reduceLT, Int.reduceLE, Int.reduceGT, Int.reduceGE]
  refine newI_intro fun id3 hid3 => ?_
  simp -implicitDefEqProofs (maxSteps := 1000000) (disch := omega) only [↓xsP, xsQ, xsT, xsR, xsD, ↓reduceIte, reduceCtorEq, eq_self, ne_eq, imp_self, forall_const, Nat.reduceEqDiff, Nat.reduceAdd, Nat.reduceSub, Nat.reduceMul, Nat.reduceLT, Nat.reduceLeDiff, Nat.reduceBEq, Nat.reduceDiv, Nat.reduceMod, Int.reduceToNat, Int.reduceNeg, Int.reduceAdd, Int.reduceSub, Int.reduceMul, Int.reduceEq, Int.reduceNe, Int.reduceLT, Int.reduceLE, Int.reduceGT, Int.reduceGE]
  refine newI_intro fun id5 hid5 => ?_
  obtain ⟨h35, hid5⟩ := bnd_new hid5
  simp -implicitDefEqProofs (maxSteps := 1000000) (disch := omega) only [↓xsP, xsQ, xsT, xsR, xsD, ↓reduceIte, reduceCtorEq, eq_self, ne_eq, imp_self, forall_const, Nat.reduceEqDiff, Nat.reduceAdd, Nat.reduceSub, Nat.reduceMul, Nat.reduceLT, Nat.reduceLeDiff, Nat.reduceBEq, Nat.reduceDiv, Nat.reduceMod, Int.reduceToNat, Int.reduceNeg, Int.reduceAdd, Int.reduceSub, Int.reduceMul, Int.reduceEq, Int.reduceNe, Int.reduceLT, Int.reduceLE, Int.reduceGT, Int.reduceGE]
  refine vc_seq_of ?_
  simp -implicitDefEqProofs (maxSteps := 1000000) (disch := omega) only [↓xsP, xsQ, xsT, xsR, xsD, ↓reduceIte, reduceCtorEq, eq_self, ne_eq, imp_self, forall_const, Nat.reduceEqDiff, Nat.reduceAdd, Nat.reduceSub, Nat.reduceMul, Nat.reduceLT, Nat.reduceLeDiff, Nat.reduceBEq, Nat.reduceDiv, Nat.reduceMod, Int.reduceToNat, Int.reduceNeg, Int.reduceAdd, Int.reduceSub, Int.reduceMul, Int.reduceEq, Int.reduceNe, Int.reduceLT, Int.reduceLE, Int.reduceGT, Int.reduceGE]
  refine newI_intro fun id6 hid6 => ?_
  obtain ⟨h56, hid6⟩ := bnd_new hid6
  obtain ⟨h36, hid6⟩ := bnd_new hid6
  simp -implicitDefEqProofs (maxSteps := 1000000) (disch := omega) only [↓xsP, xsQ, xsT, xsR, xsD, ↓reduceIte, reduceCtorEq, eq_self, ne_eq, imp_self, forall_const, Nat.reduceEqDiff, Nat.reduceAdd, Nat.reduceSub, Nat.reduceMul, Nat.reduceLT, Nat.reduceLeDiff, Nat.reduceBEq, Nat.reduceDiv, Nat.reduceMod, Int.reduceToNat, Int.reduceNeg, Int.reduceAdd, Int.reduceSub, Int.reduceMul, Int.reduceEq, Int.reduceNe, Int.reduceLT, Int.reduceLE, Int.reduceGT, Int.reduceGE]
  refine vc_seq_of ?_
  simp -implicitDefEqProofs (maxSteps := 1000000) (disch := omega) only [↓xsP, xsQ, xsT, xsR, xsD, ↓reduceIte, reduceCtorEq, eq_self, ne_eq, imp_self, forall_const, Nat.reduceEqDiff, Nat.reduceAdd, Nat.reduceSub, Nat.reduceMul, Nat.reduceLT, Nat.reduceLeDiff, Nat.reduceBEq, Nat.reduceDiv, Nat.reduceMod, Int.reduceToNat, Int.reduceNeg, Int.reduceAdd, Int.reduceSub, Int.reduceMul, Int.reduceEq, Int.reduceNe, Int.reduceLT, Int.reduceLE, Int.reduceGT, Int.reduceGE]
  refine call_of (find_spec l (by omega) op.key _) ?_
  simp -implicitDefEqProofs (maxSteps := 1000000) (disch := omega) only [↓xsP, xsQ, xsT, xsR, xsD, ↓reduceIte, reduceCtorEq, eq_self, ne_eq, imp_self, forall_const, Nat.reduceEqDiff, Nat.reduceAdd, Nat.reduceSub, Nat.reduceMul, Nat.reduceLT, Nat.reduceLeDiff, Nat.reduceBEq, Nat.reduceDiv, Nat.reduceMod, Int.reduceToNat, Int.reduceNeg, Int.reduceAdd, Int.reduceSub, Int.reduceMul, Int.reduceEq, Int.reduceNe, Int.reduceLT, Int.reduceLE, Int.reduceGT, Int.reduceGE]
  have hend : ∀ (l' : List Pr) (N : Mem), M.le N → (N id5 = some (.cells 34 [arow (ansAt l (place l op.key))] 0)) → l' = oneL l op →
      @finI prog (.tup [.l (.sl (l'.map Pr.row)), .agg (arow (ansAt l (place l op.key)))]) N ⟨fun r M' => r = .tup [.l (.sl ((oneL l op).map Pr.row)), .agg (ansAt l (place l op.key)).row] ∧ M' = M⟩ := fun l' N hle _ h => by
    subst h
    refine finI_of (XFin.wk (XFin.le hle ⟨?_, rfl⟩))
    simp only [wkT, List.map_cons, List.map_nil, wkA, wkL]
    rw [arow_wk _ (ansAt_pairs _ _)]
  have hpc := place_cases l op.key
  have hp1 : pidx (fun p => decide (p.key = op.key)) l 0 = place l op.key := rfl
  rw [hp1]
  refine vc_cut (fun fr N => fr 0 = .l (.sl (l.map Pr.row)) ∧ fr 3 = .l (.ptr id3 0 0) ∧ fr 5 = .l (.ptr id5 0 0) ∧ fr 6 = .l (.ptr id6 0 0) ∧ fr 7 = .l (.int .i64 (place l op.key)) ∧ M.le N ∧
    N id3 = some (.cells 25 [op.row] 0) ∧ N id5 = some (.cells 34 [arow ans0] 0) ∧ N id6 = some (.cells 34 [arow (ansAt l (place l op.key))] 0)) ?_ ?_
  · have hpl : place l op.key = -1 ∨ (0 ≤ place l op.key ∧ place l op.key < l.length) := by
      rcases hpc with ⟨h, _⟩ | ⟨i, hi, h, _⟩
      · exact .inl h
      · exact .inr (by omega)
    have hz : arow ans0 = [.int .i64 0, .bool false, .int .i64 0, .int .i64 0, .int .i64 0, .nils] := rfl
    generalize hN : (((M.set id3 _).set id5 _).set id6 _ : Mem) = N
    have hN3 : N id3 = some (.cells 25 [op.row] 0) := by rw [← hN, Mem.set_ne _ _ _ _ (by omega), Mem.set_ne _ _ _ _ (by omega)]; exact Mem.set_eq _ _ _
    have hN5 : N id5 = some (.cells 34 [arow ans0] 0) := by rw [← hN, Mem.set_ne _ _ _ _ (by omega)]; exact Mem.set_eq _ _ _
    have hN6 : N id6 = some (.cells 34 [arow ans0] 0) := by rw [← hN]; exact Mem.set_eq _ _ _
    have hMN : M.le N := by rw [← hN]; exact le_new (le_new (le_new (Mem.le_refl _) hid3) hid5) hid6
    have hN6' : N id6 = some (.cells 34 [[.int .i64 0, .bool false, .int .i64 0, .int .i64 0, .int .i64 0, .nils]] 0) := hN6
    clear hN
    simp -implicitDefEqProofs (maxSteps := 1000000) (disch := omega) only [↓xsP, ↓vc_seq, xsQ, xsT, xsR, xsD, ↓reduceIte, reduceCtorEq, eq_self, ne_eq, imp_self, forall_const, Nat.reduceEqDiff, Nat.reduceAdd, Nat.reduceSub, Nat.reduceMul, Nat.reduceLT, Nat.reduceLeDiff, Nat.reduceBEq, Nat.reduceDiv, Nat.reduceMod, Int.reduceToNat, Int.reduceNeg, Int.reduceAdd, Int.reduceSub, Int.reduceMul, Int.reduceEq, Int.reduceNe, Int.reduceLT, Int.reduceLE, Int.reduceGT, Int.reduceGE]
    refine condI_prop (fun hc => ?_) (fun hc => ?_)
    · have hp0 : 0 ≤ place l op.key := hc
      have hp2 : place l op.key < l.length := by omega
      simp -implicitDefEqProofs (maxSteps := 1000000) (disch := omega) only [↓xsP, ↓vc_seq, xsQ, xsT, xsR, xsD, ↓reduceIte, reduceCtorEq, eq_self, ne_eq, imp_self, forall_const, Nat.reduceEqDiff, Nat.reduceAdd, Nat.reduceSub, Nat.reduceMul, Nat.reduceLT, Nat.reduceLeDiff, Nat.reduceBEq, Nat.reduceDiv, Nat.reduceMod, Int.reduceToNat, Int.reduceNeg, Int.reduceAdd, Int.reduceSub, Int.reduceMul, Int.reduceEq, Int.reduceNe, Int.reduceLT, Int.reduceLE, Int.reduceGT, Int.reduceGE, hN6']
      refine ⟨Mem.le_set hMN (hid6 _ (Nat.le_refl _)), ?_, ?_, ?_⟩
      · exact hN3
      · exact hN5
      · rw [ansAt, if_pos hp0]; rfl
    · simp -implicitDefEqProofs (maxSteps := 1000000) (disch := omega) only [↓xsP, ↓vc_seq, xsQ, xsT, xsR, xsD, ↓reduceIte, reduceCtorEq, eq_self, ne_eq, imp_self, forall_const, Nat.reduceEqDiff, Nat.reduceAdd, Nat.reduceSub, Nat.reduceMul, Nat.reduceLT, Nat.reduceLeDiff, Nat.reduceBEq, Nat.reduceDiv, Nat.reduceMod, Int.reduceToNat, Int.reduceNeg, Int.reduceAdd, Int.reduceSub, Int.reduceMul, Int.reduceEq, Int.reduceNe, Int.reduceLT, Int.reduceLE, Int.reduceGT, Int.reduceGE]
      have hp0 : ¬ 0 ≤ place l op.key := hc
      refine ⟨hMN, hN3, hN5, ?_⟩
      rw [ansAt, if_neg hp0]; exact hN6
  · rintro fr N ⟨h0, h3, h5, h6, h7, hMN, hN3, hN5, hN6⟩
    have hpl : place l op.key = -1 ∨ (0 ≤ place l op.key ∧ place l op.key < l.length) := by
      rcases hpc with ⟨h, _⟩ | ⟨i, hi, h, _⟩
      · exact .inl h
      · exact .inr (by omega)
    have hN3' : N id3 = some (.cells 25 [[.int .i64 op.kind, .int .i64 op.key, .int .i64 op.to, .int .i64 op.val]] 0) := hN3
    refine vc_seq_of ?_
    simp -implicitDefEqProofs (maxSteps := 1000000) (disch := omega) only [↓xsP, xsQ, xsT, xsR, xsD, ↓reduceIte, reduceCtorEq, eq_self, ne_eq, imp_self, forall_const, Nat.reduceEqDiff, Nat.reduceAdd, Nat.reduceSub, Nat.reduceMul, Nat.reduceLT, Nat.reduceLeDiff, Nat.reduceBEq, Nat.reduceDiv, Nat.reduceMod, Int.reduceToNat, Int.reduceNeg, Int.reduceAdd, Int.reduceSub, Int.reduceMul, Int.reduceEq, Int.reduceNe, Int.reduceLT, Int.reduceLE, Int.reduceGT, Int.reduceGE, h0]
    refine vc_cut (fun fr N' => N' = N ∧ fr 0 = .l (.sl (l.map Pr.row)) ∧ fr 3 = .l (.ptr id3 0 0) ∧ fr 5 = .l (.ptr id5 0 0) ∧ fr 6 = .l (.ptr id6 0 0) ∧ fr 7 = .l (.int .i64 (place l op.key)) ∧ fr 19 = .l (.bool (decide (op.kind = 1 ∨ (op.kind = 2 ∧ place l op.key < 0))))) ?_ ?_
    · by_cases k1 : op.kind = 1
      · have q1 : (op.kind = 1) = True := eq_true k1
        simp -implicitDefEqProofs (maxSteps := 1000000) (disch := omega) only [↓xsP, ↓vc_seq, xsQ, xsT, xsR, xsD, ↓reduceIte, reduceCtorEq, eq_self, ne_eq, imp_self, forall_const, Nat.reduceEqDiff, Nat.reduceAdd, Nat.reduceSub, Nat.reduceMul, Nat.reduceLT, Nat.reduceLeDiff, Nat.reduceBEq, Nat.reduceDiv, Nat.reduceMod, Int.reduceToNat, Int.reduceNeg, Int.reduceAdd, Int.reduceSub, Int.reduceMul, Int.reduceEq, Int.reduceNe, Int.reduceLT, Int.reduceLE, Int.reduceGT, Int.reduceGE, h0, h3, h5, h6, h7, hN3', q1]
      · have q1 : (op.kind = 1) = False := eq_false k1
        by_cases k2 : op.kind = 2
        · have q2 : (op.kind = 2) = True := eq_true k2
          simp -implicitDefEqProofs (maxSteps := 1000000) (disch := omega) only [↓xsP, ↓vc_seq, xsQ, xsT, xsR, xsD, ↓reduceIte, reduceCtorEq, eq_self, ne_eq, imp_self, forall_const, Nat.reduceEqDiff, Nat.reduceAdd, Nat.reduceSub, Nat.reduceMul, Nat.reduceLT, Nat.reduceLeDiff, Nat.reduceBEq, Nat.reduceDiv, Nat.reduceMod, Int.reduceToNat, Int.reduceNeg, Int.reduceAdd, Int.reduceSub, Int.reduceMul, Int.reduceEq, Int.reduceNe, Int.reduceLT, Int.reduceLE, Int.reduceGT, Int.reduceGE, h0, h3, h5, h6, h7, hN3', q1, q2, false_or]
        · have q2 : (op.kind = 2) = False := eq_false k2
          simp -implicitDefEqProofs (maxSteps := 1000000) (disch := omega) only [↓xsP, ↓vc_seq, xsQ, xsT, xsR, xsD, ↓reduceIte, reduceCtorEq, eq_self, ne_eq, imp_self, forall_const, Nat.reduceEqDiff, Nat.reduceAdd, Nat.reduceSub, Nat.reduceMul, Nat.reduceLT, Nat.reduceLeDiff, Nat.reduceBEq, Nat.reduceDiv, Nat.reduceMod, Int.reduceToNat, Int.reduceNeg, Int.reduceAdd, Int.reduceSub, Int.reduceMul, Int.reduceEq, Int.reduceNe, Int.reduceLT, Int.reduceLE, Int.reduceGT, Int.reduceGE, h0, h3, h5, h6, h7, hN3', q1, q2, false_or]
    · clear h0 h3 h5 h6 h7
      rintro fr N' ⟨rfl, h0, h3, h5, h6, h7, h19⟩
      simp -implicitDefEqProofs (maxSteps := 1000000) (disch := omega) only [↓xsP, xsQ, xsT, xsR, xsD, ↓reduceIte, reduceCtorEq, eq_self, ne_eq, imp_self, forall_const, Nat.reduceEqDiff, Nat.reduceAdd, Nat.reduceSub, Nat.reduceMul, Nat.reduceLT, Nat.reduceLeDiff, Nat.reduceBEq, Nat.reduceDiv, Nat.reduceMod, Int.reduceToNat, Int.reduceNeg, Int.reduceAdd, Int.reduceSub, Int.reduceMul, Int.reduceEq, Int.reduceNe, Int.reduceLT, Int.reduceLE, Int.reduceGT, Int.reduceGE, h19]
      refine condI_prop (fun hc => ?_) (fun hc => ?_)
      · refine vc_seq_of ?_
        simp -implicitDefEqProofs (maxSteps := 1000000) (disch := omega) only [↓xsP, xsQ, xsT, xsR, xsD, ↓reduceIte, reduceCtorEq, eq_self, ne_eq, imp_self, forall_const, Nat.reduceEqDiff, Nat.reduceAdd, Nat.reduceSub, Nat.reduceMul, Nat.reduceLT, Nat.reduceLeDiff, Nat.reduceBEq, Nat.reduceDiv, Nat.reduceMod, Int.reduceToNat, Int.reduceNeg, Int.reduceAdd, Int.reduceSub, Int.reduceMul, Int.reduceEq, Int.reduceNe, Int.reduceLT, Int.reduceLE, Int.reduceGT, Int.reduceGE, h0, h3, h5, h6, h7]
        refine xwrite (fun n0 => [ (9, id5)]) [9] [] [[], [], [], [], [], [], [], [], [], []] (by kernel_rfl) (by kernel_rfl) (by kernel_rfl) (by kernel_rfl) (fun n0 hn0 => ⟨rfl, ?_, ?_⟩)
        · exact TOk_cons (.inl (lt_of_bnd hn0 hN5)) (TOk_nil _ _)
        · have h5n := lt_of_bnd hn0 hN5
          have h3n := lt_of_bnd hn0 hN3
          have h6n := lt_of_bnd hn0 hN6
          simp -implicitDefEqProofs (maxSteps := 1000000) (disch := omega) only [↓xsP, ↓vc_seq, xsQ, xsT, xsR, xsD, ↓reduceIte, reduceCtorEq, eq_self, ne_eq, imp_self, forall_const, Nat.reduceEqDiff, Nat.reduceAdd, Nat.reduceSub, Nat.reduceMul, Nat.reduceLT, Nat.reduceLeDiff, Nat.reduceBEq, Nat.reduceDiv, Nat.reduceMod, Int.reduceToNat, Int.reduceNeg, Int.reduceAdd, Int.reduceSub, Int.reduceMul, Int.reduceEq, Int.reduceNe, Int.reduceLT, Int.reduceLE, Int.reduceGT, Int.reduceGE, h0, h3, h5, h6, h7, hN3']
          refine wcallI_eff (v := .l (.sl ((withL l ⟨op.key, op.val⟩).map Pr.row))) (e := []) (fun M' hle => XCalls.mono (with_spec l hl ⟨op.key, op.val⟩ M') (by rintro _ _ ⟨rfl, rfl⟩; exact ⟨rfl, Mem.le_refl _⟩)) ?_
          simp -implicitDefEqProofs (maxSteps := 1000000) (disch := omega) only [↓xsP, ↓vc_seq, xsQ, xsT, xsR, xsD, ↓reduceIte, reduceCtorEq, eq_self, ne_eq, imp_self, forall_const, Nat.reduceEqDiff, Nat.reduceAdd, Nat.reduceSub, Nat.reduceMul, Nat.reduceLT, Nat.reduceLeDiff, Nat.reduceBEq, Nat.reduceDiv, Nat.reduceMod, Int.reduceToNat, Int.reduceNeg, Int.reduceAdd, Int.reduceSub, Int.reduceMul, Int.reduceEq, Int.reduceNe, Int.reduceLT, Int.reduceLE, Int.reduceGT, Int.reduceGE, h0, h3, h5, h6, h7, hN5, hN6, arow]
          refine hend _ _ (Mem.le_set hMN (hid5 _ (Nat.le_refl _))) (Mem.set_eq _ _ _) ?_
          rw [oneL, if_pos hc]
      · refine vc_cut (fun fr N => N = N' ∧ fr 0 = .l (.sl (l.map Pr.row)) ∧ fr 3 = .l (.ptr id3 0 0) ∧ fr 5 = .l (.ptr id5 0 0) ∧ fr 6 = .l (.ptr id6 0 0) ∧ fr 7 = .l (.int .i64 (place l op.key)) ∧ fr 40 = .l (.bool (decide (op.kind = 3 ∧ 0 ≤ place l op.key)))) ?_ ?_
        · by_cases k3 : op.kind = 3
          · have q3 : (op.kind = 3) = True := eq_true k3
            simp -implicitDefEqProofs (maxSteps := 1000000) (disch := omega) only [↓xsP, ↓vc_seq, xsQ, xsT, xsR, xsD, ↓reduceIte, reduceCtorEq, eq_self, ne_eq, imp_self, forall_const, Nat.reduceEqDiff, Nat.reduceAdd, Nat.reduceSub, Nat.reduceMul, Nat.reduceLT, Nat.reduceLeDiff, Nat.reduceBEq, Nat.reduceDiv, Nat.reduceMod, Int.reduceToNat, Int.reduceNeg, Int.reduceAdd, Int.reduceSub, Int.reduceMul, Int.reduceEq, Int.reduceNe, Int.reduceLT, Int.reduceLE, Int.reduceGT, Int.reduceGE, h0, h3, h5, h6, h7, hN3', q3]
          · have q3 : (op.kind = 3) = False := eq_false k3
            simp -implicitDefEqProofs (maxSteps := 1000000) (disch := omega) only [↓xsP, ↓vc_seq, xsQ, xsT, xsR, xsD, ↓reduceIte, reduceCtorEq, eq_self, ne_eq, imp_self, forall_const, Nat.reduceEqDiff, Nat.reduceAdd, Nat.reduceSub, Nat.reduceMul, Nat.reduceLT, Nat.reduceLeDiff, Nat.reduceBEq, Nat.reduceDiv, Nat.reduceMod, Int.reduceToNat, Int.reduceNeg, Int.reduceAdd, Int.reduceSub, Int.reduceMul, Int.reduceEq, Int.reduceNe, Int.reduceLT, Int.reduceLE, Int.reduceGT, Int.reduceGE, h0, h3, h5, h6, h7, hN3', q3]
        · clear h0 h3 h5 h6 h7 h19
          rintro fr N ⟨rfl, h0, h3, h5, h6, h7, h40⟩
          simp -implicitDefEqProofs (maxSteps := 1000000) (disch := omega) only [↓xsP, xsQ, xsT, xsR, xsD, ↓reduceIte, reduceCtorEq, eq_self, ne_eq, imp_self, forall_const, Nat.reduceEqDiff, Nat.reduceAdd, Nat.reduceSub, Nat.reduceMul, Nat.reduceLT, Nat.reduceLeDiff, Nat.reduceBEq, Nat.reduceDiv, Nat.reduceMod, Int.reduceToNat, Int.reduceNeg, Int.reduceAdd, Int.reduceSub, Int.reduceMul, Int.reduceEq, Int.reduceNe, Int.reduceLT, Int.reduceLE, Int.reduceGT, Int.reduceGE, h40]
          refine condI_prop (fun hc2 => ?_) (fun hc2 => ?_)
          · refine vc_seq_of ?_
            simp -implicitDefEqProofs (maxSteps := 1000000) (disch := omega) only [↓xsP, xsQ, xsT, xsR, xsD, ↓reduceIte, reduceCtorEq, eq_self, ne_eq, imp_self, forall_const, Nat.reduceEqDiff, Nat.reduceAdd, Nat.reduceSub, Nat.reduceMul, Nat.reduceLT, Nat.reduceLeDiff, Nat.reduceBEq, Nat.reduceDiv, Nat.reduceMod, Int.reduceToNat, Int.reduceNeg, Int.reduceAdd, Int.reduceSub, Int.reduceMul, Int.reduceEq, Int.reduceNe, Int.reduceLT, Int.reduceLE, Int.reduceGT, Int.reduceGE, h0, h3, h5, h6, h7]
            refine xwrite (fun n0 => [ (11, id5)]) [11] [7] [[], [], [], [], [], [], [], [], [], [7], [], []] (by kernel_rfl) (by kernel_rfl) (by kernel_rfl) (by kernel_rfl) (fun n0 hn0 => ⟨rfl, ?_, ?_⟩)
            · exact TOk_cons (.inl (lt_of_bnd hn0 hN5)) (TOk_nil _ _)
            · have h5n := lt_of_bnd hn0 hN5
              have h3n := lt_of_bnd hn0 hN3
              have h6n := lt_of_bnd hn0 hN6
              obtain ⟨i, hi⟩ := Int.eq_ofNat_of_zero_le hc2.2
              have hin : i < l.length := by omega
              have q0 : (0 ≤ (i : Int)) = True := eq_true (by omega)
              have q1 : (0 ≤ (i : Int) + 1) = True := eq_true (by omega)
              have q2 : (i ≤ l.length) = True := eq_true (by omega)
              have q3 : (i + 1 ≤ l.length) = True := eq_true (by omega)
              have hrows : (∀ r, r ∈ l.map Pr.row → r.length = 2) = True := eq_true (rows2 l)
              have hdr : List.take (l.length - (i + 1)) (List.drop (i + 1) (l.map Pr.row)) = (l.drop (i + 1)).map Pr.row := by
                rw [List.take_of_length_le (by simp), List.map_drop]
              simp -implicitDefEqProofs (maxSteps := 1000000) (disch := omega) only [↓xsP, ↓vc_seq, xsQ, xsT, xsR, xsD, ↓reduceIte, reduceCtorEq, eq_self, ne_eq, imp_self, forall_const, Nat.reduceEqDiff, Nat.reduceAdd, Nat.reduceSub, Nat.reduceMul, Nat.reduceLT, Nat.reduceLeDiff, Nat.reduceBEq, Nat.reduceDiv, Nat.reduceMod, Int.reduceToNat, Int.reduceNeg, Int.reduceAdd, Int.reduceSub, Int.reduceMul, Int.reduceEq, Int.reduceNe, Int.reduceLT, Int.reduceLE, Int.reduceGT, Int.reduceGE, h0, h3, h5, h6, h7, hN3', hi, q0, q1, q2, q3, hrows, hdr, ← List.map_take]
              refine ⟨.inl (by decide), ?_⟩
              have hL : [l.take i, l.drop (i + 1)].flatten = oneL l op := by
                rw [oneL, if_neg hc, if_pos hc2, hi]
                simp
              refine wcallI_eff (v := .l (.sl ((oneL l op).map Pr.row))) (e := []) (fun M' hle => ?_) ?_
              · have hcc := concat_spec [l.take i, l.drop (i + 1)] [.sl ((l.take i).map Pr.row), .sl ((l.drop (i + 1)).map Pr.row)] rfl (by simp) (by simp; omega) (n0 + 7) M' (hle _ _ (Mem.set_eq _ _ _)) (fun j hj => by
                  match j, hj with
                  | 0, _ => exact .inl rfl
                  | 1, _ => exact .inl rfl)
                rw [hL] at hcc
                refine XCalls.mono hcc ?_
                rintro _ _ ⟨rfl, rfl⟩
                exact ⟨rfl, Mem.le_refl _⟩
              · simp -implicitDefEqProofs (maxSteps := 1000000) (disch := omega) only [↓xsP, ↓vc_seq, xsQ, xsT, xsR, xsD, ↓reduceIte, reduceCtorEq, eq_self, ne_eq, imp_self, forall_const, Nat.reduceEqDiff, Nat.reduceAdd, Nat.reduceSub, Nat.reduceMul, Nat.reduceLT, Nat.reduceLeDiff, Nat.reduceBEq, Nat.reduceDiv, Nat.reduceMod, Int.reduceToNat, Int.reduceNeg, Int.reduceAdd, Int.reduceSub, Int.reduceMul, Int.reduceEq, Int.reduceNe, Int.reduceLT, Int.reduceLE, Int.reduceGT, Int.reduceGE, h0, h3, h5, h6, h7, hN5, hN6, arow]
                refine hend _ _ ?_ (Mem.set_eq _ _ _) rfl
                refine Mem.le_set (fun j b hj => ?_) (hid5 _ (Nat.le_refl _))
                have h1 := hMN _ _ hj
                rw [Mem.set_ne _ _ _ _ (by have := lt_of_bnd hn0 h1; omega)]
                exact h1
          · simp -implicitDefEqProofs (maxSteps := 1000000) (disch := omega) only [↓xsP, xsQ, xsT, xsR, xsD, ↓reduceIte, reduceCtorEq, eq_self, ne_eq, imp_self, forall_const, Nat.reduceEqDiff, Nat.reduceAdd, Nat.reduceSub, Nat.reduceMul, Nat.reduceLT, Nat.reduceLeDiff, Nat.reduceBEq, Nat.reduceDiv, Nat.reduceMod, Int.reduceToNat, Int.reduceNeg, Int.reduceAdd, Int.reduceSub, Int.reduceMul, Int.reduceEq, Int.reduceNe, Int.reduceLT, Int.reduceLE, Int.reduceGT, Int.reduceGE, h0, h3, h5, h6, h7]
            refine vc_seq_of ?_
            simp -implicitDefEqProofs (maxSteps := 1000000) (disch := omega) only [↓xsP, xsQ, xsT, xsR, xsD, ↓reduceIte, reduceCtorEq, eq_self, ne_eq, imp_self, forall_const, Nat.reduceEqDiff, Nat.reduceAdd, Nat.reduceSub, Nat.reduceMul, Nat.reduceLT, Nat.reduceLeDiff, Nat.reduceBEq, Nat.reduceDiv, Nat.reduceMod, Int.reduceToNat, Int.reduceNeg, Int.reduceAdd, Int.reduceSub, Int.reduceMul, Int.reduceEq, Int.reduceNe, Int.reduceLT, Int.reduceLE, Int.reduceGT, Int.reduceGE, h0, h3, h5, h6, h7]
            refine xwrite (fun n0 => [ (4, id5)]) [4] [] [[], [], [], [], []] (by kernel_rfl) (by kernel_rfl) (by kernel_rfl) (by kernel_rfl) (fun n0 hn0 => ⟨rfl, ?_, ?_⟩)
            · exact TOk_cons (.inl (lt_of_bnd hn0 hN5)) (TOk_nil _ _)
            · have h5n := lt_of_bnd hn0 hN5
              have h3n := lt_of_bnd hn0 hN3
              have h6n := lt_of_bnd hn0 hN6
              simp -implicitDefEqProofs (maxSteps := 1000000) (disch := omega) only [↓xsP, ↓vc_seq, xsQ, xsT, xsR, xsD, ↓reduceIte, reduceCtorEq, eq_self, ne_eq, imp_self, forall_const, Nat.reduceEqDiff, Nat.reduceAdd, Nat.reduceSub, Nat.reduceMul, Nat.reduceLT, Nat.reduceLeDiff, Nat.reduceBEq, Nat.reduceDiv, Nat.reduceMod, Int.reduceToNat, Int.reduceNeg, Int.reduceAdd, Int.reduceSub, Int.reduceMul, Int.reduceEq, Int.reduceNe, Int.reduceLT, Int.reduceLE, Int.reduceGT, Int.reduceGE, h0, h3, h5, h6, h7, hN3']
              refine wcallI_eff (v := .l (.sl (l.map Pr.row))) (e := []) (fun M' hle => XCalls.mono (clone_spec l hl M') (by rintro _ _ ⟨rfl, rfl⟩; exact ⟨rfl, Mem.le_refl _⟩)) ?_
              simp -implicitDefEqProofs (maxSteps := 1000000) (disch := omega) only [↓xsP, ↓vc_seq, xsQ, xsT, xsR, xsD, ↓reduceIte, reduceCtorEq, eq_self, ne_eq, imp_self, forall_const, Nat.reduceEqDiff, Nat.reduceAdd, Nat.reduceSub, Nat.reduceMul, Nat.reduceLT, Nat.reduceLeDiff, Nat.reduceBEq, Nat.reduceDiv, Nat.reduceMod, Int.reduceToNat, Int.reduceNeg, Int.reduceAdd, Int.reduceSub, Int.reduceMul, Int.reduceEq, Int.reduceNe, Int.reduceLT, Int.reduceLE, Int.reduceGT, Int.reduceGE, h0, h3, h5, h6, h7, hN5, hN6, arow]
              refine hend _ _ (Mem.le_set hMN (hid5 _ (Nat.le_refl _))) (Mem.set_eq _ _ _) ?_
              rw [oneL, if_neg hc, if_neg hc2]
end Go.X
set_option linter.unusedVariables false
set_option linter.unusedSimpArgs false
set_option maxHeartbeats 20000000
set_option maxRecDepth 100000
namespace Go.X
open Go.Proofs.Tryd (prog)

noncomputable def okOp (l : List Pr) (op : Opn) : Bool := bof (Rises l) && mayOpB op
def inRange (l : List Pr) (op : Opn) : List Pr := stays (outside op.key op.to) l
noncomputable def doL (l : List Pr) (op : Opn) : List Pr := if okOp l op = false then l else if op.kind = 1 ∨ op.kind = 2 ∨ op.kind = 3 then oneL l op else l
noncomputable def doA (l : List Pr) (op : Opn) : Ans :=
  if okOp l op = false then ⟨1, false, ⟨0, 0⟩, 0, []⟩
  else if op.kind = 5 then ⟨0, false, ⟨0, 0⟩, (inRange l op).length, inRange l op⟩
  else if op.kind = 6 then ⟨0, false, ⟨0, 0⟩, (inRange l op).length, []⟩
  else if op.kind = 7 then (if l = [] then ans0 else ⟨0, true, l.getD 0 default, 0, []⟩)
  else if op.kind = 8 then (if l = [] then ans0 else ⟨0, true, l.getD (l.length - 1) default, 0, []⟩)
  else ansAt l (place l op.key)

theorem oneL_get {l : List Pr} {op : Opn} (h1 : op.kind ≠ 1) (h2 : op.kind ≠ 2) (h3 : op.kind ≠ 3) : oneL l op = l := by
  rw [oneL, if_neg (by simp [h1, h2]), if_neg (by simp [h3])]
theorem stays_len (q : Pr → Bool) (l : List Pr) : (stays q l).length ≤ l.length := List.length_filter_le _ _

def DoMid (l : List Pr) (op : Opn) (M : Mem) (id5 id6 : Nat) (N : Mem) : Prop :=
  doL l op = l ∧ M.le N ∧ N id5 = some (.cells 34 [arow ans0] 0) ∧ ∃ a b c d e f, N id6 = some (.cells 34 [[a, b, c, d, e, f]] 0) ∧ [a, b, c, d, e, f].map wkL = (doA l op).row
theorem doMid_set {l : List Pr} {op : Opn} {M N : Mem} {id5 id6 : Nat} {a b c d e f : Lf} (h : doL l op = l) (hle : M.le N) (h6 : M id6 = none) (hne : id6 ≠ id5) (h5 : N id5 = some (.cells 34 [arow ans0] 0)) (hw : [a, b, c, d, e, f].map wkL = (doA l op).row) :
    DoMid l op M id5 id6 (N.set id6 (.cells 34 [[a, b, c, d, e, f]] 0)) :=
  ⟨h, Mem.le_set hle h6, by rw [Mem.set_ne _ _ _ _ hne]; exact h5, a, b, c, d, e, f, Mem.set_eq _ _ _, hw⟩

theorem do_spec (l : List Pr) (hl : l.length ≤ 8796093022207) (op : Opn) (M : Mem) :
    XCalls Go.Proofs.Tryd.prog 54 [.l (.sl (l.map Pr.row)), .agg op.row] M fun r M' => r = .tup [.l (.sl ((doL l op).map Pr.row)), .agg (doA l op).row] ∧ M' = M := by
  refine xcalls_intro (rs := [.tmp 4, .cell 5 34]) Go.Proofs.Tryd.func54 rfl (by kernel_rfl) rfl rfl (by kernel_rfl) (by simp) ?_
  refine vc_seq_of ?_
  simp -implicitDefEqProofs (maxSteps := 1000000) (disch := omega) only [↓xsP, xsQ, xsT, xsR, xsD, ↓reduceIte, reduceCtorEq, eq_self, ne_eq, imp_self, forall_const, Nat.reduceEqDiff, Nat.reduceAdd, Nat.reduceSub, Nat.reduceMul, Nat.reduceLT, Nat.reduceLeDiff, Nat.reduceBEq, Nat.reduceDiv, Nat.reduceMod, Int.reduceToNat, Int.reduceNeg, Int.reduceAdd, Int.reduceSub, Int.reduceMul, Int.reduceEq, Int.reduceNe, Int.reduceLT, Int.reduceLE, Int.reduceGT, Int.reduceGE]
  refine newI_intro fun id3 hid3 => ?_
  simp -implicitDefEqProofs (maxSteps := 1000000) (disch := omega) only [↓xsP, xsQ, xsT, xsR, xsD, ↓reduceIte, reduceCtorEq, eq_self, ne_eq, imp_self, forall_const, Nat.reduceEqDiff, Nat.reduceAdd, Nat.reduceSub, Nat.reduceMul, Nat.reduceLT, Nat.reduceLeDiff, Nat.reduceBEq, Nat.reduceDiv, Nat.reduceMod, Int.reduceToNat, Int.reduceNeg, Int.reduceAdd, Int.reduceSub, Int.reduceMul, Int.reduceEq, Int.reduceNe, Int.reduceLT, Int.reduceLE, Int.reduceGT, Int.reduceGE]
  refine newI_intro fun id5 hid5 => ?_
  obtain ⟨h35, hid5⟩ := bnd_new hid5
  simp -implicitDefEqProofs (maxSteps := 1000000) (disch := omega) only [↓xsP, xsQ, xsT, xsR, xsD, ↓reduceIte, reduceCtorEq, eq_self, ne_eq, imp_self, forall_const, Nat.reduceEqDiff, Nat.reduceAdd, Nat.reduceSub, Nat.reduceMul, Nat.reduceLT, Nat.reduceLeDiff, Nat.reduceBEq, Nat.reduceDiv, Nat.reduceMod, Int.reduceToNat, Int.reduceNeg, Int.reduceAdd, Int.reduceSub, Int.reduceMul, Int.reduceEq, Int.reduceNe, Int.reduceLT, Int.reduceLE, Int.reduceGT, Int.reduceGE]
  have hend : ∀ (l' : List Pr) (a b c d e f : Lf) (N : Mem), M.le N → l' = doL l op → [a, b, c, d, e, f].map wkL = (doA l op).row →
      @finI prog (.tup [.l (.sl (l'.map Pr.row)), .agg [a, b, c, d, e, f]]) N ⟨fun r M' => r = .tup [.l (.sl ((doL l op).map Pr.row)), .agg (doA l op).row] ∧ M' = M⟩ := fun l' a b c d e f N hle h hw => by
    subst h
    refine finI_of (XFin.wk (XFin.le hle ⟨?_, rfl⟩))
    simp only [wkT, List.map_cons, List.map_nil, wkA]
    rw [← hw]
    rfl
  generalize hN : ((M.set id3 _).set id5 _ : Mem) = N
  have hN3 : N id3 = some (.cells 25 [[.int .i64 op.kind, .int .i64 op.key, .int .i64 op.to, .int .i64 op.val]] 0) := by rw [← hN, Mem.set_ne _ _ _ _ (by omega)]; exact Mem.set_eq _ _ _
  have hN5 : N id5 = some (.cells 34 [arow ans0] 0) := by rw [← hN]; exact Mem.set_eq _ _ _
  have hMN : M.le N := by rw [← hN]; exact le_new (le_new (Mem.le_refl _) hid3) hid5
  clear hN
  refine vc_cut (fun fr N' => N' = N ∧ okOp l op = true ∧ fr 0 = .l (.sl (l.map Pr.row)) ∧ fr 3 = .l (.ptr id3 0 0) ∧ fr 5 = .l (.ptr id5 0 0)) ?_ ?_
  · simp -implicitDefEqProofs (maxSteps := 1000000) (disch := omega) only [↓xsP, ↓vc_seq, xsQ, xsT, xsR, xsD, ↓reduceIte, reduceCtorEq, eq_self, ne_eq, imp_self, forall_const, Nat.reduceEqDiff, Nat.reduceAdd, Nat.reduceSub, Nat.reduceMul, Nat.reduceLT, Nat.reduceLeDiff, Nat.reduceBEq, Nat.reduceDiv, Nat.reduceMod, Int.reduceToNat, Int.reduceNeg, Int.reduceAdd, Int.reduceSub, Int.reduceMul, Int.reduceEq, Int.reduceNe, Int.reduceLT, Int.reduceLE, Int.reduceGT, Int.reduceGE]
    refine call_of (may_spec l (by omega) N) ?_
    cases hr : bof (Rises l) with
    | false =>
      have hk : okOp l op = false := by rw [okOp, hr]; rfl
      simp -implicitDefEqProofs (maxSteps := 1000000) (disch := omega) only [↓xsP, ↓vc_seq, xsQ, xsT, xsR, xsD, ↓reduceIte, reduceCtorEq, eq_self, ne_eq, imp_self, forall_const, Nat.reduceEqDiff, Nat.reduceAdd, Nat.reduceSub, Nat.reduceMul, Nat.reduceLT, Nat.reduceLeDiff, Nat.reduceBEq, Nat.reduceDiv, Nat.reduceMod, Int.reduceToNat, Int.reduceNeg, Int.reduceAdd, Int.reduceSub, Int.reduceMul, Int.reduceEq, Int.reduceNe, Int.reduceLT, Int.reduceLE, Int.reduceGT, Int.reduceGE]
      refine call_of (clone_spec l hl N) ?_
      simp -implicitDefEqProofs (maxSteps := 1000000) (disch := omega) only [↓xsP, ↓vc_seq, xsQ, xsT, xsR, xsD, ↓reduceIte, reduceCtorEq, eq_self, ne_eq, imp_self, forall_const, Nat.reduceEqDiff, Nat.reduceAdd, Nat.reduceSub, Nat.reduceMul, Nat.reduceLT, Nat.reduceLeDiff, Nat.reduceBEq, Nat.reduceDiv, Nat.reduceMod, Int.reduceToNat, Int.reduceNeg, Int.reduceAdd, Int.reduceSub, Int.reduceMul, Int.reduceEq, Int.reduceNe, Int.reduceLT, Int.reduceLE, Int.reduceGT, Int.reduceGE, hN5, arow, ans0]
      refine hend _ _ _ _ _ _ _ _ (Mem.le_set hMN (hid5 _ (Nat.le_refl _))) (by rw [doL, if_pos hk]) (by rw [doA, if_pos hk]; rfl)
    | true =>
      simp -implicitDefEqProofs (maxSteps := 1000000) (disch := omega) only [↓xsP, ↓vc_seq, xsQ, xsT, xsR, xsD, ↓reduceIte, reduceCtorEq, eq_self, ne_eq, imp_self, forall_const, Nat.reduceEqDiff, Nat.reduceAdd, Nat.reduceSub, Nat.reduceMul, Nat.reduceLT, Nat.reduceLeDiff, Nat.reduceBEq, Nat.reduceDiv, Nat.reduceMod, Int.reduceToNat, Int.reduceNeg, Int.reduceAdd, Int.reduceSub, Int.reduceMul, Int.reduceEq, Int.reduceNe, Int.reduceLT, Int.reduceLE, Int.reduceGT, Int.reduceGE, hN3]
      refine call_of (mayOp_spec op N) ?_
      cases hm : mayOpB op with
      | false =>
        have hk : okOp l op = false := by rw [okOp, hr, hm]; rfl
        simp -implicitDefEqProofs (maxSteps := 1000000) (disch := omega) only [↓xsP, ↓vc_seq, xsQ, xsT, xsR, xsD, ↓reduceIte, reduceCtorEq, eq_self, ne_eq, imp_self, forall_const, Nat.reduceEqDiff, Nat.reduceAdd, Nat.reduceSub, Nat.reduceMul, Nat.reduceLT, Nat.reduceLeDiff, Nat.reduceBEq, Nat.reduceDiv, Nat.reduceMod, Int.reduceToNat, Int.reduceNeg, Int.reduceAdd, Int.reduceSub, Int.reduceMul, Int.reduceEq, Int.reduceNe, Int.reduceLT, Int.reduceLE, Int.reduceGT, Int.reduceGE]
        refine call_of (clone_spec l hl N) ?_
        simp -implicitDefEqProofs (maxSteps := 1000000) (disch := omega) only [↓xsP, ↓vc_seq, xsQ, xsT, xsR, xsD, ↓reduceIte, reduceCtorEq, eq_self, ne_eq, imp_self, forall_const, Nat.reduceEqDiff, Nat.reduceAdd, Nat.reduceSub, Nat.reduceMul, Nat.reduceLT, Nat.reduceLeDiff, Nat.reduceBEq, Nat.reduceDiv, Nat.reduceMod, Int.reduceToNat, Int.reduceNeg, Int.reduceAdd, Int.reduceSub, Int.reduceMul, Int.reduceEq, Int.reduceNe, Int.reduceLT, Int.reduceLE, Int.reduceGT, Int.reduceGE, hN5, arow, ans0]
        refine hend _ _ _ _ _ _ _ _ (Mem.le_set hMN (hid5 _ (Nat.le_refl _))) (by rw [doL, if_pos hk]) (by rw [doA, if_pos hk]; rfl)
      | true =>
        simp -implicitDefEqProofs (maxSteps := 1000000) (disch := omega) only [↓xsP, ↓vc_seq, xsQ, xsT, xsR, xsD, ↓reduceIte, reduceCtorEq, eq_self, ne_eq, imp_self, forall_const, Nat.reduceEqDiff, Nat.reduceAdd, Nat.reduceSub, Nat.reduceMul, Nat.reduceLT, Nat.reduceLeDiff, Nat.reduceBEq, Nat.reduceDiv, Nat.reduceMod, Int.reduceToNat, Int.reduceNeg, Int.reduceAdd, Int.reduceSub, Int.reduceMul, Int.reduceEq, Int.reduceNe, Int.reduceLT, Int.reduceLE, Int.reduceGT, Int.reduceGE]
        rw [okOp, hr, hm]
        rfl
  · rintro fr N' ⟨rfl, hok, h0, h3, h5⟩
    have hok' : ¬ okOp l op = false := by rw [hok]; simp
    have hmay : mayOpB op = true := by
      rw [okOp, Bool.and_eq_true] at hok
      exact hok.2
    simp only [mayOpB, Bool.and_eq_true, decide_eq_true_eq] at hmay
    refine vc_seq_of ?_
    simp -implicitDefEqProofs (maxSteps := 1000000) (disch := omega) only [↓xsP, xsQ, xsT, xsR, xsD, ↓reduceIte, reduceCtorEq, eq_self, ne_eq, imp_self, forall_const, Nat.reduceEqDiff, Nat.reduceAdd, Nat.reduceSub, Nat.reduceMul, Nat.reduceLT, Nat.reduceLeDiff, Nat.reduceBEq, Nat.reduceDiv, Nat.reduceMod, Int.reduceToNat, Int.reduceNeg, Int.reduceAdd, Int.reduceSub, Int.reduceMul, Int.reduceEq, Int.reduceNe, Int.reduceLT, Int.reduceLE, Int.reduceGT, Int.reduceGE, h0, h3, h5]
    refine newI_intro fun id6 hid6 => ?_
    have h56 : id5 < id6 := lt_of_bnd hid6 hN5
    have h36 : id3 < id6 := lt_of_bnd hid6 hN3
    simp -implicitDefEqProofs (maxSteps := 1000000) (disch := omega) only [↓xsP, xsQ, xsT, xsR, xsD, ↓reduceIte, reduceCtorEq, eq_self, ne_eq, imp_self, forall_const, Nat.reduceEqDiff, Nat.reduceAdd, Nat.reduceSub, Nat.reduceMul, Nat.reduceLT, Nat.reduceLeDiff, Nat.reduceBEq, Nat.reduceDiv, Nat.reduceMod, Int.reduceToNat, Int.reduceNeg, Int.reduceAdd, Int.reduceSub, Int.reduceMul, Int.reduceEq, Int.reduceNe, Int.reduceLT, Int.reduceLE, Int.reduceGT, Int.reduceGE, h0, h3, h5]
    have hM6 : M id6 = none := by
      cases hq : M id6 with
      | none => rfl
      | some b => have := hMN _ _ hq; rw [hid6 _ (Nat.le_refl _)] at this; cases this
    refine vc_cut (fun fr N => fr 0 = .l (.sl (l.map Pr.row)) ∧ fr 5 = .l (.ptr id5 0 0) ∧ fr 6 = .l (.ptr id6 0 0) ∧ DoMid l op M id5 id6 N) ?_ ?_
    · have hget : ∀ {k : Int}, op.kind = k → 5 ≤ k → doL l op = l := fun h1 h2 => by
        rw [doL, if_neg hok', if_neg (by omega)]
      by_cases k5 : op.kind = 5
      · have q5 : (op.kind = 5) = True := eq_true k5
        have hdo : doA l op = ⟨0, false, ⟨0, 0⟩, (inRange l op).length, inRange l op⟩ := by rw [doA, if_neg hok', if_pos k5]
        simp -implicitDefEqProofs (maxSteps := 1000000) (disch := omega) only [↓xsP, ↓vc_seq, xsQ, xsT, xsR, xsD, ↓reduceIte, reduceCtorEq, eq_self, ne_eq, imp_self, forall_const, Nat.reduceEqDiff, Nat.reduceAdd, Nat.reduceSub, Nat.reduceMul, Nat.reduceLT, Nat.reduceLeDiff, Nat.reduceBEq, Nat.reduceDiv, Nat.reduceMod, Int.reduceToNat, Int.reduceNeg, Int.reduceAdd, Int.reduceSub, Int.reduceMul, Int.reduceEq, Int.reduceNe, Int.reduceLT, Int.reduceLE, Int.reduceGT, Int.reduceGE, h0, h3, h5, hN3, q5]
        refine call_of (within_spec l hl op.key op.to _) ?_
        simp -implicitDefEqProofs (maxSteps := 1000000) (disch := omega) only [↓xsP, ↓vc_seq, xsQ, xsT, xsR, xsD, ↓reduceIte, reduceCtorEq, eq_self, ne_eq, imp_self, forall_const, Nat.reduceEqDiff, Nat.reduceAdd, Nat.reduceSub, Nat.reduceMul, Nat.reduceLT, Nat.reduceLeDiff, Nat.reduceBEq, Nat.reduceDiv, Nat.reduceMod, Int.reduceToNat, Int.reduceNeg, Int.reduceAdd, Int.reduceSub, Int.reduceMul, Int.reduceEq, Int.reduceNe, Int.reduceLT, Int.reduceLE, Int.reduceGT, Int.reduceGE, h0, h3, h5, hN3, q5]
        exact doMid_set (hget k5 (by omega)) hMN hM6 (by omega) hN5 (by rw [hdo]; rfl)
      · have q5 : (op.kind = 5) = False := eq_false k5
        by_cases k6 : op.kind = 6
        · have q6 : (op.kind = 6) = True := eq_true k6
          have hdo : doA l op = ⟨0, false, ⟨0, 0⟩, (inRange l op).length, []⟩ := by rw [doA, if_neg hok', if_neg k5, if_pos k6]
          simp -implicitDefEqProofs (maxSteps := 1000000) (disch := omega) only [↓xsP, ↓vc_seq, xsQ, xsT, xsR, xsD, ↓reduceIte, reduceCtorEq, eq_self, ne_eq, imp_self, forall_const, Nat.reduceEqDiff, Nat.reduceAdd, Nat.reduceSub, Nat.reduceMul, Nat.reduceLT, Nat.reduceLeDiff, Nat.reduceBEq, Nat.reduceDiv, Nat.reduceMod, Int.reduceToNat, Int.reduceNeg, Int.reduceAdd, Int.reduceSub, Int.reduceMul, Int.reduceEq, Int.reduceNe, Int.reduceLT, Int.reduceLE, Int.reduceGT, Int.reduceGE, h0, h3, h5, hN3, q5, q6]
          refine call_of (within_spec l hl op.key op.to _) ?_
          simp -implicitDefEqProofs (maxSteps := 1000000) (disch := omega) only [↓xsP, ↓vc_seq, xsQ, xsT, xsR, xsD, ↓reduceIte, reduceCtorEq, eq_self, ne_eq, imp_self, forall_const, Nat.reduceEqDiff, Nat.reduceAdd, Nat.reduceSub, Nat.reduceMul, Nat.reduceLT, Nat.reduceLeDiff, Nat.reduceBEq, Nat.reduceDiv, Nat.reduceMod, Int.reduceToNat, Int.reduceNeg, Int.reduceAdd, Int.reduceSub, Int.reduceMul, Int.reduceEq, Int.reduceNe, Int.reduceLT, Int.reduceLE, Int.reduceGT, Int.reduceGE, h0, h3, h5, hN3, q5, q6]
          exact doMid_set (hget k6 (by omega)) hMN hM6 (by omega) hN5 (by rw [hdo]; rfl)
        · have q6 : (op.kind = 6) = False := eq_false k6
          by_cases k7 : op.kind = 7
          · have q7 : (op.kind = 7) = True := eq_true k7
            have q8 : (op.kind = 8) = False := eq_false (by omega)
            have hdo : doA l op = (if l = [] then ans0 else ⟨0, true, l.getD 0 default, 0, []⟩) := by rw [doA, if_neg hok', if_neg k5, if_neg k6, if_pos k7]
            simp -implicitDefEqProofs (maxSteps := 1000000) (disch := omega) only [↓xsP, ↓vc_seq, xsQ, xsT, xsR, xsD, ↓reduceIte, reduceCtorEq, eq_self, ne_eq, imp_self, forall_const, Nat.reduceEqDiff, Nat.reduceAdd, Nat.reduceSub, Nat.reduceMul, Nat.reduceLT, Nat.reduceLeDiff, Nat.reduceBEq, Nat.reduceDiv, Nat.reduceMod, Int.reduceToNat, Int.reduceNeg, Int.reduceAdd, Int.reduceSub, Int.reduceMul, Int.reduceEq, Int.reduceNe, Int.reduceLT, Int.reduceLE, Int.reduceGT, Int.reduceGE, h0, h3, h5, hN3, q5, q6, q7]
            refine condI_prop (fun hp => ?_) (fun hp => ?_)
            · have hl0 : ¬ l = [] := fun e => by subst e; simp at hp
              have hpos : ((l.length : Int) > 0) = True := eq_true hp
              have hpos' : 0 < l.length := by omega
              rw [if_neg hl0] at hdo
              simp -implicitDefEqProofs (maxSteps := 1000000) (disch := omega) only [↓xsP, ↓vc_seq, xsQ, xsT, xsR, xsD, ↓reduceIte, reduceCtorEq, eq_self, ne_eq, imp_self, forall_const, Nat.reduceEqDiff, Nat.reduceAdd, Nat.reduceSub, Nat.reduceMul, Nat.reduceLT, Nat.reduceLeDiff, Nat.reduceBEq, Nat.reduceDiv, Nat.reduceMod, Int.reduceToNat, Int.reduceNeg, Int.reduceAdd, Int.reduceSub, Int.reduceMul, Int.reduceEq, Int.reduceNe, Int.reduceLT, Int.reduceLE, Int.reduceGT, Int.reduceGE, h0, h3, h5, hN3, q7, q8, hpos]
              exact doMid_set (hget k7 (by omega)) hMN hM6 (by omega) hN5 (by rw [hdo]; rfl)
            · have hl0 : l = [] := List.eq_nil_of_length_eq_zero (by omega)
              have hpos : ((l.length : Int) > 0) = False := eq_false hp
              rw [if_pos hl0] at hdo
              simp -implicitDefEqProofs (maxSteps := 1000000) (disch := omega) only [↓xsP, ↓vc_seq, xsQ, xsT, xsR, xsD, ↓reduceIte, reduceCtorEq, eq_self, ne_eq, imp_self, forall_const, Nat.reduceEqDiff, Nat.reduceAdd, Nat.reduceSub, Nat.reduceMul, Nat.reduceLT, Nat.reduceLeDiff, Nat.reduceBEq, Nat.reduceDiv, Nat.reduceMod, Int.reduceToNat, Int.reduceNeg, Int.reduceAdd, Int.reduceSub, Int.reduceMul, Int.reduceEq, Int.reduceNe, Int.reduceLT, Int.reduceLE, Int.reduceGT, Int.reduceGE, h0, h3, h5, hN3, q7, q8, hpos]
              exact doMid_set (hget k7 (by omega)) hMN hM6 (by omega) hN5 (by rw [hdo]; rfl)
          · have q7 : (op.kind = 7) = False := eq_false k7
            by_cases k8 : op.kind = 8
            · have q8 : (op.kind = 8) = True := eq_true k8
              have hdo : doA l op = (if l = [] then ans0 else ⟨0, true, l.getD (l.length - 1) default, 0, []⟩) := by rw [doA, if_neg hok', if_neg k5, if_neg k6, if_neg k7, if_pos k8]
              simp -implicitDefEqProofs (maxSteps := 1000000) (disch := omega) only [↓xsP, ↓vc_seq, xsQ, xsT, xsR, xsD, ↓reduceIte, reduceCtorEq, eq_self, ne_eq, imp_self, forall_const, Nat.reduceEqDiff, Nat.reduceAdd, Nat.reduceSub, Nat.reduceMul, Nat.reduceLT, Nat.reduceLeDiff, Nat.reduceBEq, Nat.reduceDiv, Nat.reduceMod, Int.reduceToNat, Int.reduceNeg, Int.reduceAdd, Int.reduceSub, Int.reduceMul, Int.reduceEq, Int.reduceNe, Int.reduceLT, Int.reduceLE, Int.reduceGT, Int.reduceGE, h0, h3, h5, hN3, q5, q6, q7, q8]
              refine condI_prop (fun hp => ?_) (fun hp => ?_)
              · have hl0 : ¬ l = [] := fun e => by subst e; simp at hp
                have hpos : ((l.length : Int) > 0) = True := eq_true hp
                have hpos' : 0 < l.length := by omega
                rw [if_neg hl0] at hdo
                simp -implicitDefEqProofs (maxSteps := 1000000) (disch := omega) only [↓xsP, ↓vc_seq, xsQ, xsT, xsR, xsD, ↓reduceIte, reduceCtorEq, eq_self, ne_eq, imp_self, forall_const, Nat.reduceEqDiff, Nat.reduceAdd, Nat.reduceSub, Nat.reduceMul, Nat.reduceLT, Nat.reduceLeDiff, Nat.reduceBEq, Nat.reduceDiv, Nat.reduceMod, Int.reduceToNat, Int.reduceNeg, Int.reduceAdd, Int.reduceSub, Int.reduceMul, Int.reduceEq, Int.reduceNe, Int.reduceLT, Int.reduceLE, Int.reduceGT, Int.reduceGE, h0, h3, h5, hN3, q7, q8, hpos]
                exact doMid_set (hget k8 (by omega)) hMN hM6 (by omega) hN5 (by rw [hdo]; rfl)
              · have hl0 : l = [] := List.eq_nil_of_length_eq_zero (by omega)
                have hpos : ((l.length : Int) > 0) = False := eq_false hp
                rw [if_pos hl0] at hdo
                simp -implicitDefEqProofs (maxSteps := 1000000) (disch := omega) only [↓xsP, ↓vc_seq, xsQ, xsT, xsR, xsD, ↓reduceIte, reduceCtorEq, eq_self, ne_eq, imp_self, forall_const, Nat.reduceEqDiff, Nat.reduceAdd, Nat.reduceSub, Nat.reduceMul, Nat.reduceLT, Nat.reduceLeDiff, Nat.reduceBEq, Nat.reduceDiv, Nat.reduceMod, Int.reduceToNat, Int.reduceNeg, Int.reduceAdd, Int.reduceSub, Int.reduceMul, Int.reduceEq, Int.reduceNe, Int.reduceLT, Int.reduceLE, Int.reduceGT, Int.reduceGE, h0, h3, h5, hN3, q7, q8, hpos]
                exact doMid_set (hget k8 (by omega)) hMN hM6 (by omega) hN5 (by rw [hdo]; rfl)
            · have q8 : (op.kind = 8) = False := eq_false k8
              have hdo : doA l op = ansAt l (place l op.key) := by rw [doA, if_neg hok', if_neg k5, if_neg k6, if_neg k7, if_neg k8]
              have hdl : doL l op = oneL l op := by
                rw [doL, if_neg hok']
                split
                · rfl
                · rename_i hk
                  exact (oneL_get (by omega) (by omega) (by omega)).symm
              simp -implicitDefEqProofs (maxSteps := 1000000) (disch := omega) only [↓xsP, ↓vc_seq, xsQ, xsT, xsR, xsD, ↓reduceIte, reduceCtorEq, eq_self, ne_eq, imp_self, forall_const, Nat.reduceEqDiff, Nat.reduceAdd, Nat.reduceSub, Nat.reduceMul, Nat.reduceLT, Nat.reduceLeDiff, Nat.reduceBEq, Nat.reduceDiv, Nat.reduceMod, Int.reduceToNat, Int.reduceNeg, Int.reduceAdd, Int.reduceSub, Int.reduceMul, Int.reduceEq, Int.reduceNe, Int.reduceLT, Int.reduceLE, Int.reduceGT, Int.reduceGE, h0, h3, h5, hN3, q5, q6, q7, q8]
              refine call_of (one_spec l hl op _) ?_
              simp -implicitDefEqProofs (maxSteps := 1000000) (disch := omega) only [↓xsP, ↓vc_seq, xsQ, xsT, xsR, xsD, ↓reduceIte, reduceCtorEq, eq_self, ne_eq, imp_self, forall_const, Nat.reduceEqDiff, Nat.reduceAdd, Nat.reduceSub, Nat.reduceMul, Nat.reduceLT, Nat.reduceLeDiff, Nat.reduceBEq, Nat.reduceDiv, Nat.reduceMod, Int.reduceToNat, Int.reduceNeg, Int.reduceAdd, Int.reduceSub, Int.reduceMul, Int.reduceEq, Int.reduceNe, Int.reduceLT, Int.reduceLE, Int.reduceGT, Int.reduceGE, h0, h3, h5, hN5, arow, ans0]
              exact hend _ _ _ _ _ _ _ _ (Mem.le_set (Mem.le_set hMN hM6) (hid5 _ (Nat.le_refl _))) hdl.symm (by rw [hdo]; rfl)
    · clear h0 h3 h5
      rintro fr N ⟨h0, h5, h6, hdl, hMN2, hN5', a, b, c, d, e, f, hN6, hw⟩
      refine vc_seq_of ?_
      simp -implicitDefEqProofs (maxSteps := 1000000) (disch := omega) only [↓xsP, xsQ, xsT, xsR, xsD, ↓reduceIte, reduceCtorEq, eq_self, ne_eq, imp_self, forall_const, Nat.reduceEqDiff, Nat.reduceAdd, Nat.reduceSub, Nat.reduceMul, Nat.reduceLT, Nat.reduceLeDiff, Nat.reduceBEq, Nat.reduceDiv, Nat.reduceMod, Int.reduceToNat, Int.reduceNeg, Int.reduceAdd, Int.reduceSub, Int.reduceMul, Int.reduceEq, Int.reduceNe, Int.reduceLT, Int.reduceLE, Int.reduceGT, Int.reduceGE, h0, h5, h6]
      refine xwrite (fun n0 => [ (4, id5)]) [4] [] [[], [], [], [], []] (by kernel_rfl) (by kernel_rfl) (by kernel_rfl) (by kernel_rfl) (fun n0 hn0 => ⟨rfl, ?_, ?_⟩)
      · exact TOk_cons (.inl (lt_of_bnd hn0 hN5')) (TOk_nil _ _)
      · have h5n := lt_of_bnd hn0 hN5'
        have h6n := lt_of_bnd hn0 hN6
        simp -implicitDefEqProofs (maxSteps := 1000000) (disch := omega) only [↓xsP, ↓vc_seq, xsQ, xsT, xsR, xsD, ↓reduceIte, reduceCtorEq, eq_self, ne_eq, imp_self, forall_const, Nat.reduceEqDiff, Nat.reduceAdd, Nat.reduceSub, Nat.reduceMul, Nat.reduceLT, Nat.reduceLeDiff, Nat.reduceBEq, Nat.reduceDiv, Nat.reduceMod, Int.reduceToNat, Int.reduceNeg, Int.reduceAdd, Int.reduceSub, Int.reduceMul, Int.reduceEq, Int.reduceNe, Int.reduceLT, Int.reduceLE, Int.reduceGT, Int.reduceGE, h0, h5, h6]
        refine wcallI_eff (v := .l (.sl (l.map Pr.row))) (e := []) (fun M' hle => XCalls.mono (clone_spec l hl M') (by rintro _ _ ⟨rfl, rfl⟩; exact ⟨rfl, Mem.le_refl _⟩)) ?_
        simp -implicitDefEqProofs (maxSteps := 1000000) (disch := omega) only [↓xsP, ↓vc_seq, xsQ, xsT, xsR, xsD, ↓reduceIte, reduceCtorEq, eq_self, ne_eq, imp_self, forall_const, Nat.reduceEqDiff, Nat.reduceAdd, Nat.reduceSub, Nat.reduceMul, Nat.reduceLT, Nat.reduceLeDiff, Nat.reduceBEq, Nat.reduceDiv, Nat.reduceMod, Int.reduceToNat, Int.reduceNeg, Int.reduceAdd, Int.reduceSub, Int.reduceMul, Int.reduceEq, Int.reduceNe, Int.reduceLT, Int.reduceLE, Int.reduceGT, Int.reduceGE, h0, h5, h6, hN5', hN6, arow]
        exact hend _ _ _ _ _ _ _ _ (Mem.le_set hMN2 (hid5 _ (Nat.le_refl _))) hdl.symm hw
end Go.X
set_option linter.unusedVariables false
set_option linter.unusedSimpArgs false
set_option maxHeartbeats 20000000
set_option maxRecDepth 100000
namespace Go.X
open Go.Proofs.Tryd (prog)

theorem XCalls.kept2 {P : Program} {f : FuncId} {M : Mem} {K : AV → Mem → Prop} (id n : Nat) {T keep : Nat} {rows : List (List Lf)} {cs : List Lf} (hM : M id = some (.cells T rows keep)) (hn : n = rows.length) (hk : rows.length ≤ keep) (hc : cs.map (frzL id rows) = cs)
    (h : XCalls P f [.l (.sl rows), .agg cs] M K) : XCalls P f [.l (.ms id 0 n), .agg cs] M K := by
  subst hn
  refine XCalls.frz0 id hM hk ?_
  simpa [frzA, frz1, frzL, List.take_of_length_le, hc] using h
theorem opn_frz (id : Nat) (rows : List (List Lf)) (o : Opn) : o.row.map (frzL id rows) = o.row := by simp [Opn.row, frzL]
end Go.X
set_option linter.unusedVariables false
set_option linter.unusedSimpArgs false
set_option maxRecDepth 100000
namespace Go.X

def Asc (l : List Pr) : Prop := l.Pairwise fun a b => a.key < b.key
theorem rises_cons {x y : Pr} {r : List Pr} : Rises (x :: y :: r) ↔ x.key < y.key ∧ Rises (y :: r) := by
  constructor
  · intro h
    refine ⟨by simpa using h 1 (Nat.le_refl _) (by simp), fun j h1 h2 => ?_⟩
    have := h (j + 1) (by omega) (by simpa using h2)
    cases j with
    | zero => omega
    | succ j => simpa using this
  · rintro ⟨h, hr⟩ j h1 h2
    cases j with
    | zero => omega
    | succ j =>
      cases j with
      | zero => simpa using h
      | succ j => simpa using hr (j + 1) (by omega) (by simpa using h2)
theorem rises_asc : ∀ (l : List Pr), Rises l ↔ Asc l
  | [] => ⟨fun _ => List.Pairwise.nil, fun _ j h1 h2 => by simp at h2⟩
  | [x] => ⟨fun _ => List.pairwise_singleton _ _, fun _ j h1 h2 => by simp at h2; omega⟩
  | x :: y :: r => by
    rw [rises_cons, rises_asc (y :: r)]
    constructor
    · rintro ⟨h, hr⟩
      refine List.pairwise_cons.2 ⟨fun b hb => ?_, hr⟩
      rcases List.mem_cons.1 hb with rfl | hb
      · exact h
      · have := (List.pairwise_cons.1 hr).1 b hb
        omega
    · intro hr
      have h2 := List.pairwise_cons.1 hr
      exact ⟨h2.1 y (by simp), h2.2⟩

def Out (k : Int) (A C l : List Pr) : Prop := l = A ++ C ∧ (∀ a ∈ A, a.key < k) ∧ ∀ c ∈ C, k < c.key
def Inn (k : Int) (A : List Pr) (x : Pr) (C l : List Pr) : Prop := l = A ++ x :: C ∧ x.key = k ∧ (∀ a ∈ A, a.key < k) ∧ ∀ c ∈ C, k < c.key
theorem forms (k : Int) : ∀ (l : List Pr), Asc l → (∃ A C, Out k A C l) ∨ ∃ A x C, Inn k A x C l
  | [], _ => .inl ⟨[], [], rfl, (fun a h => by cases h), (fun a h => by cases h)⟩
  | x :: r, h => by
    obtain ⟨h1, h2⟩ := List.pairwise_cons.1 h
    by_cases hx : x.key < k
    · rcases forms k r h2 with ⟨A, C, rfl, ha, hc⟩ | ⟨A, y, C, rfl, hy, ha, hc⟩
      · exact .inl ⟨x :: A, C, rfl, (fun a h => by rcases List.mem_cons.1 h with rfl | h; exact hx; exact ha a h), hc⟩
      · exact .inr ⟨x :: A, y, C, rfl, hy, (fun a h => by rcases List.mem_cons.1 h with rfl | h; exact hx; exact ha a h), hc⟩
    · by_cases he : x.key = k
      · exact .inr ⟨[], x, r, rfl, he, (fun a h => by cases h), fun c hc => by have := h1 c hc; omega⟩
      · refine .inl ⟨[], x :: r, rfl, (fun a h => by cases h), fun c hc => ?_⟩
        rcases List.mem_cons.1 hc with rfl | hc
        · omega
        · have := h1 c hc
          omega
theorem asc_app {A C : List Pr} {p : Pr} {k : Int} (h : Asc (A ++ C)) (ha : ∀ a ∈ A, a.key < p.key) (hc : ∀ c ∈ C, p.key < c.key) : Asc (A ++ p :: C) := by
  rw [Asc, List.pairwise_append] at h ⊢
  refine ⟨h.1, List.pairwise_cons.2 ⟨hc, h.2.1⟩, fun a h1 b h2 => ?_⟩
  rcases List.mem_cons.1 h2 with rfl | h2
  · exact ha a h1
  · exact h.2.2 a h1 b h2
theorem asc_del {A C : List Pr} {p : Pr} (h : Asc (A ++ p :: C)) : Asc (A ++ C) := by
  rw [Asc, List.pairwise_append] at h ⊢
  exact ⟨h.1, (List.pairwise_cons.1 h.2.1).2, fun a h1 b h2 => h.2.2 a h1 b (List.mem_cons_of_mem _ h2)⟩

theorem wat_app {k : Int} {B : List Pr} : ∀ {A : List Pr}, (∀ a ∈ A, a.key < k) → wat k (A ++ B) = A.length + wat k B
  | [], _ => by simp
  | a :: A, h => by
    simp only [List.cons_append, wat, if_pos (h a (by simp)), List.length_cons]
    rw [wat_app fun b hb => h b (by simp [hb])]
    omega
theorem wat_ge {k : Int} {B : List Pr} (h : ∀ b ∈ B, k ≤ b.key) : wat k B = 0 := by
  cases B with
  | nil => rfl
  | cons b r => simp only [wat]; rw [if_neg (by have := h b (by simp); omega)]
theorem pidx_app {q : Pr → Bool} {B : List Pr} : ∀ {A : List Pr} (i : Nat), (∀ a ∈ A, q a = false) → pidx q (A ++ B) i = pidx q B (i + A.length)
  | [], i, _ => by simp
  | a :: A, i, h => by
    simp only [List.cons_append, pidx, h a (by simp), Bool.false_eq_true, if_false, List.length_cons]
    rw [pidx_app (i + 1) fun b hb => h b (by simp [hb])]
    congr 1
    omega
theorem pidx_none {q : Pr → Bool} : ∀ {B : List Pr} (i : Nat), (∀ b ∈ B, q b = false) → pidx q B i = -1
  | [], _, _ => rfl
  | b :: B, i, h => by
    simp only [pidx, h b (by simp), Bool.false_eq_true, if_false]
    exact pidx_none (i + 1) fun c hc => h c (by simp [hc])

section
variable {k : Int} {A C l : List Pr} {x : Pr}
theorem Out.place (h : Out k A C l) : place l k = -1 := by
  obtain ⟨rfl, ha, hc⟩ := h
  exact pidx_none 0 fun b hb => by
    rcases List.mem_append.1 hb with hb | hb
    · have := ha b hb; simp; omega
    · have := hc b hb; simp; omega
theorem Inn.place (h : Inn k A x C l) : place l k = A.length := by
  obtain ⟨rfl, hx, ha, hc⟩ := h
  rw [Go.X.place, pidx_app 0 fun b hb => by have := ha b hb; simp; omega]
  simp [pidx, hx]
theorem Inn.get (h : Inn k A x C l) : l.getD A.length default = x := by
  obtain ⟨rfl, _⟩ := h
  simp [List.getD_eq_getElem?_getD]
theorem Out.with (h : Out k A C l) (v : Int) : withL l ⟨k, v⟩ = A ++ ⟨k, v⟩ :: C := by
  obtain ⟨rfl, ha, hc⟩ := h
  have hw : wat k (A ++ C) = A.length := by rw [wat_app ha, wat_ge fun b hb => by have := hc b hb; omega]; rfl
  have hr : withRest (A ++ C) ⟨k, v⟩ = C := by
    unfold withRest
    simp only [hw, List.drop_left]
    cases C with
    | nil => rfl
    | cons c r =>
      have := hc c (by simp)
      simp only
      rw [if_neg (by omega)]
  rw [withL, hr]
  simp [hw]
theorem Inn.with (h : Inn k A x C l) (v : Int) : withL l ⟨k, v⟩ = A ++ ⟨k, v⟩ :: C := by
  obtain ⟨rfl, hx, ha, hc⟩ := h
  have hw : wat k (A ++ x :: C) = A.length := by
    rw [wat_app ha, wat_ge fun b hb => by
      rcases List.mem_cons.1 hb with rfl | hb
      · omega
      · have := hc b hb; omega]
    rfl
  have hr : withRest (A ++ x :: C) ⟨k, v⟩ = C := by
    unfold withRest
    simp only [hw, List.drop_left]
    rw [if_pos hx]
  rw [withL, hr]
  simp [hw]
theorem Inn.cut (h : Inn k A x C l) : l.take (Go.X.place l k).toNat ++ l.drop ((Go.X.place l k).toNat + 1) = A ++ C := by
  have hp := h.place
  obtain ⟨rfl, _⟩ := h
  rw [hp, Int.toNat_natCast]
  simp
end

/-- What an operation on a key makes of a leaf. -/
theorem one_forms {l : List Pr} (op : Opn) (h : Asc l) (h1 : 1 ≤ op.kind) :
    (∃ A C, Out op.key A C l ∧ ((op.kind = 1 ∨ op.kind = 2) ∧ oneL l op = A ++ ⟨op.key, op.val⟩ :: C ∨ 3 ≤ op.kind ∧ oneL l op = l)) ∨
    ∃ A x C, Inn op.key A x C l ∧ (op.kind = 1 ∧ oneL l op = A ++ ⟨op.key, op.val⟩ :: C ∨ op.kind = 3 ∧ oneL l op = A ++ C ∨ (op.kind = 2 ∨ 4 ≤ op.kind) ∧ oneL l op = l) := by
  rcases forms op.key l h with ⟨A, C, hO⟩ | ⟨A, x, C, hI⟩
  · refine .inl ⟨A, C, hO, ?_⟩
    have hp := hO.place
    by_cases h3 : 3 ≤ op.kind
    · exact .inr ⟨h3, by rw [oneL, if_neg (by omega), if_neg (by omega)]⟩
    · exact .inl ⟨by omega, by rw [oneL, if_pos (by omega), hO.with]⟩
  · refine .inr ⟨A, x, C, hI, ?_⟩
    have hp := hI.place
    by_cases k1 : op.kind = 1
    · exact .inl ⟨k1, by rw [oneL, if_pos (.inl k1), hI.with]⟩
    · by_cases k3 : op.kind = 3
      · exact .inr (.inl ⟨k3, by rw [oneL, if_neg (by omega), if_pos (by omega), hI.cut]⟩)
      · exact .inr (.inr ⟨by omega, by rw [oneL, if_neg (by omega), if_neg (by omega)]⟩)
end Go.X
set_option linter.unusedVariables false
set_option linter.unusedSimpArgs false
set_option maxRecDepth 100000
namespace Go.X

theorem okOp_of {l : List Pr} {op : Opn} (h : Asc l) (hm : mayOpB op = true) : okOp l op = true := by
  rw [okOp, bof_true ((rises_asc l).2 h), hm]; rfl
theorem may_kind {op : Opn} (hm : mayOpB op = true) : 1 ≤ op.kind ∧ op.kind ≤ 8 := by simpa [mayOpB] using hm
theorem doL_upd {l : List Pr} {op : Opn} (h : Asc l) (hm : mayOpB op = true) (hk : op.kind ≤ 3) : doL l op = oneL l op := by
  have := may_kind hm
  rw [doL, if_neg (by rw [okOp_of h hm]; simp), if_pos (by omega)]
theorem doL_read {l : List Pr} {op : Opn} (hk : 4 ≤ op.kind) : doL l op = l := by
  rw [doL]
  split
  · rfl
  · rw [if_neg (by omega)]
theorem doA_one {l : List Pr} {op : Opn} (h : Asc l) (hm : mayOpB op = true) (hk : op.kind ≤ 4) : doA l op = ansAt l (place l op.key) := by
  rw [doA, if_neg (by rw [okOp_of h hm]; simp), if_neg (by omega), if_neg (by omega), if_neg (by omega), if_neg (by omega)]
theorem upd_law {l : List Pr} {op : Opn} (h : Asc l) (h1 : 1 ≤ op.kind) (h3 : op.kind ≤ 3) :
    Asc (oneL l op) ∧ oneL (oneL l op) op = oneL l op ∧ (ansAt (oneL l op) (place (oneL l op) op.key)).ok = decide (op.kind ≠ 3) := by
  have hsel : ∀ {A C : List Pr} {x : Pr} {m : List Pr}, Inn op.key A x C m → Asc m → op.kind ≠ 3 → (op.kind = 1 → x = ⟨op.key, op.val⟩) → oneL m op = m ∧ (ansAt m (place m op.key)).ok = decide (op.kind ≠ 3) := fun {A C x m} hI hm hk hx => by
    have hp := hI.place
    refine ⟨?_, ?_⟩
    · by_cases k1 : op.kind = 1
      · rw [oneL, if_pos (.inl k1), hI.with, ← hx k1, ← hI.1]
      · rw [oneL, if_neg (by omega), if_neg (by omega)]
    · rw [hp, ansAt, if_pos (by omega)]
      simp [hk]
  have hno : ∀ {A C m : List Pr}, Out op.key A C m → op.kind = 3 → oneL m op = m ∧ (ansAt m (place m op.key)).ok = decide (op.kind ≠ 3) := fun {A C m} hO hk => by
    have hp := hO.place
    refine ⟨by rw [oneL, if_neg (by omega), if_neg (by omega)], ?_⟩
    rw [hp, ansAt, if_neg (by omega)]
    simp [hk, ans0]
  rcases one_forms op h h1 with ⟨A, C, hO, hc⟩ | ⟨A, x, C, hI, hc⟩
  · rcases hc with ⟨hk, hm⟩ | ⟨hk, hm⟩
    · have hI : Inn op.key A ⟨op.key, op.val⟩ C (oneL l op) := ⟨hm, rfl, hO.2.1, hO.2.2⟩
      have ha : Asc (oneL l op) := by rw [hm]; exact asc_app (k := op.key) (by rw [← hO.1]; exact h) hO.2.1 hO.2.2
      exact ⟨ha, hsel hI ha (by omega) fun _ => rfl⟩
    · rw [hm]
      exact ⟨h, hno hO (by omega)⟩
  · rcases hc with ⟨hk, hm⟩ | ⟨hk, hm⟩ | ⟨hk, hm⟩
    · have hI2 : Inn op.key A ⟨op.key, op.val⟩ C (oneL l op) := ⟨hm, rfl, hI.2.2.1, hI.2.2.2⟩
      have ha : Asc (oneL l op) := by
        rw [hm]
        exact asc_app (k := op.key) (asc_del (p := x) (by rw [← hI.1]; exact h)) hI.2.2.1 hI.2.2.2
      exact ⟨ha, hsel hI2 ha (by omega) fun _ => rfl⟩
    · have hO : Out op.key A C (oneL l op) := ⟨hm, hI.2.2.1, hI.2.2.2⟩
      have ha : Asc (oneL l op) := by rw [hm]; exact asc_del (p := x) (by rw [← hI.1]; exact h)
      exact ⟨ha, hno hO hk⟩
    · rw [hm]
      exact ⟨h, hsel hI h (by omega) fun hk1 => by omega⟩
theorem oneL_len (l : List Pr) (op : Opn) : (oneL l op).length ≤ l.length + 1 := by
  unfold oneL
  split
  · have := withRest_len l ⟨op.key, op.val⟩
    change _ ≤ l.length - wat op.key l at this
    unfold withL
    simp only [List.length_append, List.length_take, List.length_cons, List.length_nil]
    omega
  · split
    · simp only [List.length_append, List.length_take, List.length_drop]
      omega
    · omega
theorem doL_len (l : List Pr) (op : Opn) : (doL l op).length ≤ l.length + 1 := by
  have := oneL_len l op
  unfold doL
  split
  · omega
  · split <;> omega
end Go.X
set_option linter.unusedVariables false
set_option linter.unusedSimpArgs false
set_option maxRecDepth 100000
namespace Go.X

theorem drop_cons {l : List Pr} {i : Nat} (hi : i < l.length) : l.drop i = l.getD i default :: l.drop (i + 1) := by
  rw [List.drop_eq_getElem_cons hi, List.getD_eq_getElem?_getD, List.getElem?_eq_getElem hi, Option.getD_some]
end Go.X
set_option linter.unusedVariables false
set_option linter.unusedSimpArgs false
set_option maxRecDepth 100000
namespace Go.X

def rng (l : List Pr) (lo hi : Int) : List Pr := stays (outside lo hi) l
end Go.X
set_option linter.unusedVariables false
set_option maxRecDepth 100000
namespace Go.X

/-- What is there at a key. -/
def look : List Pr → Int → Option Int
  | [], _ => none
  | p :: r, k => if p.key = k then some p.val else look r k
theorem look_app (A B : List Pr) (k : Int) (h : ∀ a ∈ A, a.key ≠ k) : look (A ++ B) k = look B k := by
  induction A with
  | nil => rfl
  | cons x r ih =>
    rw [List.cons_append, look, if_neg (h x (by simp)), ih fun a ha => h a (by simp [ha])]
theorem look_none {l : List Pr} {k : Int} (h : ∀ a ∈ l, a.key ≠ k) : look l k = none := by
  have := look_app l [] k h
  simpa [look] using this
theorem look_mid {A C : List Pr} {x y : Pr} {k : Int} (hk : y.key = x.key) (h : k ≠ x.key) : look (A ++ y :: C) k = look (A ++ C) k := by
  induction A with
  | nil => rw [List.nil_append, look, if_neg (by omega)]; rfl
  | cons z r ih =>
    rw [List.cons_append, List.cons_append, look, look, ih]
theorem Out.look {A C l : List Pr} {k : Int} (h : Out k A C l) : look l k = none := by
  obtain ⟨rfl, h1, h2⟩ := h
  refine look_none fun a ha => ?_
  rcases List.mem_append.1 ha with h' | h'
  · have := h1 a h'; omega
  · have := h2 a h'; omega
theorem Inn.look {A C l : List Pr} {x : Pr} {k : Int} (h : Inn k A x C l) : look l k = some x.val := by
  obtain ⟨rfl, h1, h2, h3⟩ := h
  rw [look_app _ _ _ fun a ha => by have := h2 a ha; omega, Go.X.look, if_pos h1]
/-- What an operation makes of what is there at its key. -/
def upd1 (op : Opn) (o : Option Int) : Option Int :=
  if op.kind = 1 then some op.val else if op.kind = 2 then (match o with | none => some op.val | some v => some v) else if op.kind = 3 then none else o
theorem oneL_look {l : List Pr} {op : Opn} (h : Asc l) (h1 : 1 ≤ op.kind) (k : Int) : look (oneL l op) k = if k = op.key then upd1 op (look l k) else look l k := by
  rcases one_forms op h h1 with ⟨A, C, hO, hc⟩ | ⟨A, x, C, hI, hc⟩
  · rcases hc with ⟨hk, hm⟩ | ⟨hk, hm⟩
    · by_cases e : k = op.key
      · subst e
        have hI : Inn op.key A ⟨op.key, op.val⟩ C (oneL l op) := ⟨hm, rfl, hO.2.1, hO.2.2⟩
        rw [if_pos rfl, hI.look, hO.look, upd1]
        rcases hk with hk | hk
        · rw [if_pos hk]
        · rw [if_neg (by omega), if_pos hk]
      · rw [if_neg e, hm, look_mid (x := ⟨op.key, op.val⟩) rfl e, ← hO.1]
    · by_cases e : k = op.key
      · subst e
        rw [if_pos rfl, hm, hO.look, upd1, if_neg (by omega), if_neg (by omega)]
        split <;> rfl
      · rw [if_neg e, hm]
  · rcases hc with ⟨hk, hm⟩ | ⟨hk, hm⟩ | ⟨hk, hm⟩
    · by_cases e : k = op.key
      · subst e
        have hI2 : Inn op.key A ⟨op.key, op.val⟩ C (oneL l op) := ⟨hm, rfl, hI.2.2.1, hI.2.2.2⟩
        rw [if_pos rfl, hI2.look, hI.look, upd1, if_pos hk]
      · have hx := hI.2.1
        rw [if_neg e, hm, look_mid (x := ⟨op.key, op.val⟩) rfl e, hI.1, look_mid (x := x) rfl (by omega)]
    · have hx := hI.2.1
      by_cases e : k = op.key
      · subst e
        have hO : Out op.key A C (oneL l op) := ⟨hm, hI.2.2.1, hI.2.2.2⟩
        rw [if_pos rfl, hO.look, hI.look, upd1, if_neg (by omega), if_neg (by omega), if_pos hk]
      · rw [if_neg e, hm, hI.1, look_mid (x := x) rfl (by omega)]
    · by_cases e : k = op.key
      · subst e
        rw [if_pos rfl, hm, hI.look, upd1, if_neg (by omega)]
        rcases hk with hk | hk
        · rw [if_pos hk]
        · rw [if_neg (by omega), if_neg (by omega)]
      · rw [if_neg e, hm]
theorem look_head {x : Pr} {r : List Pr} (h : Asc (x :: r)) {k : Int} (hk : k < x.key) : look (x :: r) k = none := by
  refine look_none fun a ha => ?_
  rcases List.mem_cons.1 ha with rfl | h'
  · omega
  · have := (List.pairwise_cons.1 h).1 a h'
    omega
theorem look_ext : ∀ {l m : List Pr}, Asc l → Asc m → (∀ k, look l k = look m k) → l = m
  | [], [], _, _, _ => rfl
  | [], y :: s, _, _, h => by have := h y.key; rw [look, look, if_pos rfl] at this; cases this
  | x :: r, [], _, _, h => by have := h x.key; rw [look, look, if_pos rfl] at this; cases this
  | x :: r, y :: s, hl, hm, h => by
    have hxy : x.key = y.key := by
      rcases Int.lt_trichotomy x.key y.key with h' | h' | h'
      · have := h x.key
        rw [look_head hm h', look, if_pos rfl] at this
        cases this
      · exact h'
      · have := h y.key
        rw [look_head hl h', look, if_pos rfl] at this
        cases this
    have hv : x.val = y.val := by
      have := h x.key
      rw [look, look, if_pos rfl, if_pos hxy.symm] at this
      exact Option.some.inj this
    have e : x = y := by
      cases x; cases y
      simp at hxy hv
      rw [hxy, hv]
    subst e
    have hr : r = s := look_ext (List.pairwise_cons.1 hl).2 (List.pairwise_cons.1 hm).2 fun k => by
      have hk := h k
      rw [look, look] at hk
      by_cases hxk : x.key = k
      · subst hxk
        rw [look_none fun a ha => by have := (List.pairwise_cons.1 hl).1 a ha; omega, look_none fun a ha => by have := (List.pairwise_cons.1 hm).1 a ha; omega]
      · rw [if_neg hxk, if_neg hxk] at hk
        exact hk
    rw [hr]

theorem doL_asc {l : List Pr} (op : Opn) (h : Asc l) : Asc (doL l op) := by
  by_cases hm : mayOpB op = true
  · have hk := may_kind hm
    by_cases h3 : op.kind ≤ 3
    · rw [doL_upd h hm h3]
      exact (upd_law h hk.1 h3).1
    · rw [doL_read (by omega)]
      exact h
  · have : okOp l op = false := by
      rw [okOp]
      simp at hm
      rw [hm, Bool.and_false]
    rw [doL, if_pos this]
    exact h
theorem doL_look {l : List Pr} {op : Opn} (h : Asc l) (hm : mayOpB op = true) (hk : op.kind ≤ 4) (k : Int) : look (doL l op) k = if k = op.key then upd1 op (look l k) else look l k := by
  have h1 := (may_kind hm).1
  by_cases h3 : op.kind ≤ 3
  · rw [doL_upd h hm h3, oneL_look h h1]
  · have e : upd1 op (look l k) = look l k := by rw [upd1.eq_def, if_neg (show ¬ op.kind = 1 by omega), if_neg (show ¬ op.kind = 2 by omega), if_neg (show ¬ op.kind = 3 by omega)]
    rw [doL_read (by omega), e]
    split <;> rfl
end Go.X
set_option linter.unusedVariables false
set_option linter.unusedSimpArgs false
set_option maxHeartbeats 20000000
set_option maxRecDepth 100000
namespace Go.X
open Go.Proofs.Tryd (prog)

/-- A map's block. -/
def mapB (s : List Pr) : Blk := .cells 83 [[.sl (s.map Pr.row)]] 0

theorem le_seti {M N : Mem} {id : Nat} {b : Blk} (h1 : N id = some b) (h2 : ∀ k bk, k ≠ id → M k = some bk → N k = some bk) : (M.set id b).le N := by
  intro k bk hk
  rw [Mem.set_app] at hk
  by_cases e : id = k
  · rw [if_pos e] at hk
    rw [← e, h1]
    exact hk
  · rw [if_neg e] at hk
    exact h2 k bk (fun h => e h.symm) hk

theorem modelDo_spec (s : List Pr) (hl : s.length ≤ 8796093022207) (op : Opn) (id : Nat) (M : Mem) (hM : M id = some (mapB s)) :
    XCalls Go.Proofs.Tryd.prog 37 [.l (.ptr id 0 0), .agg op.row] M fun r M' => r = .agg (doA s op).row ∧ M' = M.set id (mapB (doL s op)) := by
  refine xcalls_intro (rs := [.cell 4 34]) Go.Proofs.Tryd.func37 rfl (by kernel_rfl) rfl rfl (by kernel_rfl) (by simp) ?_
  simp -implicitDefEqProofs (maxSteps := 1000000) (disch := omega) only [↓xsP, ↓vc_seq, xsQ, xsT, xsR, xsD, ↓reduceIte, reduceCtorEq, eq_self, ne_eq, imp_self, forall_const, Nat.reduceEqDiff, Nat.reduceAdd, Nat.reduceSub, Nat.reduceMul, Nat.reduceLT, Nat.reduceLeDiff, Nat.reduceBEq, Nat.reduceDiv, Nat.reduceMod, Int.reduceToNat, Int.reduceNeg, Int.reduceAdd, Int.reduceSub, Int.reduceMul, Int.reduceEq, Int.reduceNe, Int.reduceLT, Int.reduceLE, Int.reduceGT, Int.reduceGE]
  refine newI_intro fun p3 hp3 => ?_
  have h3 : id < p3 := lt_of_bnd hp3 hM
  simp -implicitDefEqProofs (maxSteps := 1000000) (disch := omega) only [↓xsP, ↓vc_seq, xsQ, xsT, xsR, xsD, ↓reduceIte, reduceCtorEq, eq_self, ne_eq, imp_self, forall_const, Nat.reduceEqDiff, Nat.reduceAdd, Nat.reduceSub, Nat.reduceMul, Nat.reduceLT, Nat.reduceLeDiff, Nat.reduceBEq, Nat.reduceDiv, Nat.reduceMod, Int.reduceToNat, Int.reduceNeg, Int.reduceAdd, Int.reduceSub, Int.reduceMul, Int.reduceEq, Int.reduceNe, Int.reduceLT, Int.reduceLE, Int.reduceGT, Int.reduceGE]
  refine newI_intro fun p4 hp4 => ?_
  obtain ⟨h34, hp4⟩ := bnd_new hp4
  simp -implicitDefEqProofs (maxSteps := 1000000) (disch := omega) only [↓xsP, ↓vc_seq, xsQ, xsT, xsR, xsD, ↓reduceIte, reduceCtorEq, eq_self, ne_eq, imp_self, forall_const, Nat.reduceEqDiff, Nat.reduceAdd, Nat.reduceSub, Nat.reduceMul, Nat.reduceLT, Nat.reduceLeDiff, Nat.reduceBEq, Nat.reduceDiv, Nat.reduceMod, Int.reduceToNat, Int.reduceNeg, Int.reduceAdd, Int.reduceSub, Int.reduceMul, Int.reduceEq, Int.reduceNe, Int.reduceLT, Int.reduceLE, Int.reduceGT, Int.reduceGE]
  refine newI_intro fun p5 hp5 => ?_
  obtain ⟨h45, hp5⟩ := bnd_new hp5
  obtain ⟨h35, hp5⟩ := bnd_new hp5
  simp -implicitDefEqProofs (maxSteps := 1000000) (disch := omega) only [↓xsP, ↓vc_seq, xsQ, xsT, xsR, xsD, ↓reduceIte, reduceCtorEq, eq_self, ne_eq, imp_self, forall_const, Nat.reduceEqDiff, Nat.reduceAdd, Nat.reduceSub, Nat.reduceMul, Nat.reduceLT, Nat.reduceLeDiff, Nat.reduceBEq, Nat.reduceDiv, Nat.reduceMod, Int.reduceToNat, Int.reduceNeg, Int.reduceAdd, Int.reduceSub, Int.reduceMul, Int.reduceEq, Int.reduceNe, Int.reduceLT, Int.reduceLE, Int.reduceGT, Int.reduceGE]
  refine xwrite (fun n0 => [ (12, id), (13, p5)]) [12, 13] [] [[], [], [], [], [], [], [], [], [], [12], [], [], [], []] (by kernel_rfl) (by kernel_rfl) (by kernel_rfl) (by kernel_rfl) (fun n0 hn0 => ⟨rfl, ?_, ?_⟩)
  · exact TOk_cons (.inl (by have := lt_of_bnd hn0 (Mem.set_eq _ p5 _); omega)) (TOk_cons (.inl (lt_of_bnd hn0 (Mem.set_eq _ p5 _))) (TOk_nil _ _))
  · simp -implicitDefEqProofs (maxSteps := 1000000) (disch := omega) only [↓xsP, ↓vc_seq, xsQ, xsT, xsR, xsD, ↓reduceIte, reduceCtorEq, eq_self, ne_eq, imp_self, forall_const, Nat.reduceEqDiff, Nat.reduceAdd, Nat.reduceSub, Nat.reduceMul, Nat.reduceLT, Nat.reduceLeDiff, Nat.reduceBEq, Nat.reduceDiv, Nat.reduceMod, Int.reduceToNat, Int.reduceNeg, Int.reduceAdd, Int.reduceSub, Int.reduceMul, Int.reduceEq, Int.reduceNe, Int.reduceLT, Int.reduceLE, Int.reduceGT, Int.reduceGE, hM, mapB]
    refine wcallI_of (fun M' _ => do_spec s hl op M') ?_
    simp -implicitDefEqProofs (maxSteps := 1000000) (disch := omega) only [↓xsP, ↓vc_seq, xsQ, xsT, xsR, xsD, ↓reduceIte, reduceCtorEq, eq_self, ne_eq, imp_self, forall_const, Nat.reduceEqDiff, Nat.reduceAdd, Nat.reduceSub, Nat.reduceMul, Nat.reduceLT, Nat.reduceLeDiff, Nat.reduceBEq, Nat.reduceDiv, Nat.reduceMod, Int.reduceToNat, Int.reduceNeg, Int.reduceAdd, Int.reduceSub, Int.reduceMul, Int.reduceEq, Int.reduceNe, Int.reduceLT, Int.reduceLE, Int.reduceGT, Int.reduceGE, hM, mapB]
    refine fin_ok (le_seti ?_ fun k bk hk h => ?_) ⟨rfl, rfl⟩
    · simp (disch := omega) only [Mem.set_eq, Mem.set_ne, mapB]
    · have := lt_of_bnd hp3 h
      simp (disch := omega) only [Mem.set_ne, h]

theorem pairs_spec (s : List Pr) (hl : s.length ≤ 8796093022207) (id : Nat) (M : Mem) (hM : M id = some (mapB s)) :
    XCalls Go.Proofs.Tryd.prog 50 [.l (.ptr id 0 0)] M fun r M' => r = .l (.sl (s.map Pr.row)) ∧ M' = M := by
  refine xcalls_intro (rs := [.tmp 2]) Go.Proofs.Tryd.func50 rfl (by kernel_rfl) rfl rfl (by kernel_rfl) (by simp) ?_
  simp -implicitDefEqProofs (maxSteps := 1000000) (disch := omega) only [↓xsP, ↓vc_seq, xsQ, xsT, xsR, xsD, ↓reduceIte, reduceCtorEq, eq_self, ne_eq, imp_self, forall_const, Nat.reduceEqDiff, Nat.reduceAdd, Nat.reduceSub, Nat.reduceMul, Nat.reduceLT, Nat.reduceLeDiff, Nat.reduceBEq, Nat.reduceDiv, Nat.reduceMod, Int.reduceToNat, Int.reduceNeg, Int.reduceAdd, Int.reduceSub, Int.reduceMul, Int.reduceEq, Int.reduceNe, Int.reduceLT, Int.reduceLE, Int.reduceGT, Int.reduceGE, hM, mapB]
  refine call_of (clone_spec s hl M) ?_
  simp -implicitDefEqProofs (maxSteps := 1000000) (disch := omega) only [↓xsP, ↓vc_seq, xsQ, xsT, xsR, xsD, ↓reduceIte, reduceCtorEq, eq_self, ne_eq, imp_self, forall_const, Nat.reduceEqDiff, Nat.reduceAdd, Nat.reduceSub, Nat.reduceMul, Nat.reduceLT, Nat.reduceLeDiff, Nat.reduceBEq, Nat.reduceDiv, Nat.reduceMod, Int.reduceToNat, Int.reduceNeg, Int.reduceAdd, Int.reduceSub, Int.reduceMul, Int.reduceEq, Int.reduceNe, Int.reduceLT, Int.reduceLE, Int.reduceGT, Int.reduceGE]
  exact fin_ok (Mem.le_refl _) ⟨rfl, rfl⟩
def putOp (p : Pr) : Opn := ⟨1, p.key, 0, p.val⟩
noncomputable def putL (l : List Pr) : List Pr := l.foldl (fun s p => doL s (putOp p)) []
theorem putL_snoc (l : List Pr) (p : Pr) : putL (l ++ [p]) = doL (putL l) (putOp p) := by simp [putL, List.foldl_append]
theorem putL_take (l : List Pr) {i : Nat} (hi : i < l.length) : putL (l.take (i + 1)) = doL (putL (l.take i)) (putOp (l.getD i default)) := by
  have : l.take (i + 1) = l.take i ++ [l.getD i default] := by
    rw [List.take_add_one, List.getD_eq_getElem?_getD, List.getElem?_eq_getElem hi]
    rfl
  rw [this, putL_snoc]
theorem putL_len (l : List Pr) : (putL l).length ≤ l.length := by
  have key : ∀ (l s : List Pr), (l.foldl (fun s p => doL s (putOp p)) s).length ≤ s.length + l.length := by
    intro l
    induction l with
    | nil => intro s; simp
    | cons p r ih =>
      intro s
      have h1 := ih (doL s (putOp p))
      have h2 := doL_len s (putOp p)
      simp only [List.foldl_cons, List.length_cons]
      omega
  have := key l []
  rw [putL]
  simpa using this
theorem new_spec (l : List Pr) (hl : l.length ≤ 8796093022206) (M : Mem) :
    XCalls Go.Proofs.Tryd.prog 23 [.l (.sl (l.map Pr.row))] M fun r M' => ∃ id, (∀ j, id ≤ j → M j = none) ∧ r = .l (.ptr id 0 0) ∧ M' = M.set id (mapB (putL l)) := by
  refine xcalls_intro (rs := [.tmp 2]) Go.Proofs.Tryd.func23 rfl (by kernel_rfl) rfl rfl (by kernel_rfl) (by simp) ?_
  simp -implicitDefEqProofs (maxSteps := 1000000) (disch := omega) only [↓xsP, ↓vc_seq, xsQ, xsT, xsR, xsD, ↓reduceIte, reduceCtorEq, eq_self, ne_eq, imp_self, forall_const, Nat.reduceEqDiff, Nat.reduceAdd, Nat.reduceSub, Nat.reduceMul, Nat.reduceLT, Nat.reduceLeDiff, Nat.reduceBEq, Nat.reduceDiv, Nat.reduceMod, Int.reduceToNat, Int.reduceNeg, Int.reduceAdd, Int.reduceSub, Int.reduceMul, Int.reduceEq, Int.reduceNe, Int.reduceLT, Int.reduceLE, Int.reduceGT, Int.reduceGE]
  refine newI_intro fun id hid => ?_
  simp -implicitDefEqProofs (maxSteps := 1000000) (disch := omega) only [↓xsP, ↓vc_seq, xsQ, xsT, xsR, xsD, ↓reduceIte, reduceCtorEq, eq_self, ne_eq, imp_self, forall_const, Nat.reduceEqDiff, Nat.reduceAdd, Nat.reduceSub, Nat.reduceMul, Nat.reduceLT, Nat.reduceLeDiff, Nat.reduceBEq, Nat.reduceDiv, Nat.reduceMod, Int.reduceToNat, Int.reduceNeg, Int.reduceAdd, Int.reduceSub, Int.reduceMul, Int.reduceEq, Int.reduceNe, Int.reduceLT, Int.reduceLE, Int.reduceGT, Int.reduceGE]
  refine loopI_gs (GStep.wk (Mem.set_eq _ _ _)) ?_
  simp -implicitDefEqProofs (maxSteps := 1000000) (disch := omega) only [↓xsP, ↓vc_seq, xsQ, xsT, xsR, xsD, ↓reduceIte, reduceCtorEq, eq_self, ne_eq, imp_self, forall_const, Nat.reduceEqDiff, Nat.reduceAdd, Nat.reduceSub, Nat.reduceMul, Nat.reduceLT, Nat.reduceLeDiff, Nat.reduceBEq, Nat.reduceDiv, Nat.reduceMod, Int.reduceToNat, Int.reduceNeg, Int.reduceAdd, Int.reduceSub, Int.reduceMul, Int.reduceEq, Int.reduceNe, Int.reduceLT, Int.reduceLE, Int.reduceGT, Int.reduceGE]
  refine xloopG (by kernel_rfl) (fun k fr M' => ∃ i : Nat, i ≤ l.length ∧ k = l.length - i ∧ fr 3 = .l (.ptr id 0 0) ∧ fr 8 = .l (.sl (l.map Pr.row)) ∧ fr 9 = .l (.int .i64 l.length) ∧ fr 10 = .l (.int .i64 i) ∧ M' = M.set id (mapB (putL (l.take i)))) l.length ?_ ?_
  · refine ⟨0, Nat.zero_le _, rfl, ?_, ?_, ?_, ?_, ?_⟩
    · simp -implicitDefEqProofs (maxSteps := 1000000) (disch := omega) only [↓xsP, ↓vc_seq, xsQ, xsT, xsR, xsD, ↓reduceIte, reduceCtorEq, eq_self, ne_eq, imp_self, forall_const, Nat.reduceEqDiff, Nat.reduceAdd, Nat.reduceSub, Nat.reduceMul, Nat.reduceLT, Nat.reduceLeDiff, Nat.reduceBEq, Nat.reduceDiv, Nat.reduceMod, Int.reduceToNat, Int.reduceNeg, Int.reduceAdd, Int.reduceSub, Int.reduceMul, Int.reduceEq, Int.reduceNe, Int.reduceLT, Int.reduceLE, Int.reduceGT, Int.reduceGE]
    · simp -implicitDefEqProofs (maxSteps := 1000000) (disch := omega) only [↓xsP, ↓vc_seq, xsQ, xsT, xsR, xsD, ↓reduceIte, reduceCtorEq, eq_self, ne_eq, imp_self, forall_const, Nat.reduceEqDiff, Nat.reduceAdd, Nat.reduceSub, Nat.reduceMul, Nat.reduceLT, Nat.reduceLeDiff, Nat.reduceBEq, Nat.reduceDiv, Nat.reduceMod, Int.reduceToNat, Int.reduceNeg, Int.reduceAdd, Int.reduceSub, Int.reduceMul, Int.reduceEq, Int.reduceNe, Int.reduceLT, Int.reduceLE, Int.reduceGT, Int.reduceGE]
    · simp -implicitDefEqProofs (maxSteps := 1000000) (disch := omega) only [↓xsP, ↓vc_seq, xsQ, xsT, xsR, xsD, ↓reduceIte, reduceCtorEq, eq_self, ne_eq, imp_self, forall_const, Nat.reduceEqDiff, Nat.reduceAdd, Nat.reduceSub, Nat.reduceMul, Nat.reduceLT, Nat.reduceLeDiff, Nat.reduceBEq, Nat.reduceDiv, Nat.reduceMod, Int.reduceToNat, Int.reduceNeg, Int.reduceAdd, Int.reduceSub, Int.reduceMul, Int.reduceEq, Int.reduceNe, Int.reduceLT, Int.reduceLE, Int.reduceGT, Int.reduceGE]
    · simp -implicitDefEqProofs (maxSteps := 1000000) (disch := omega) only [↓xsP, ↓vc_seq, xsQ, xsT, xsR, xsD, ↓reduceIte, reduceCtorEq, eq_self, ne_eq, imp_self, forall_const, Nat.reduceEqDiff, Nat.reduceAdd, Nat.reduceSub, Nat.reduceMul, Nat.reduceLT, Nat.reduceLeDiff, Nat.reduceBEq, Nat.reduceDiv, Nat.reduceMod, Int.reduceToNat, Int.reduceNeg, Int.reduceAdd, Int.reduceSub, Int.reduceMul, Int.reduceEq, Int.reduceNe, Int.reduceLT, Int.reduceLE, Int.reduceGT, Int.reduceGE, Int.ofNat_zero]
    · rw [List.take_zero]
      rfl
  · rintro k fr M' ⟨i, hi, rfl, h3, h8, h9, h10, rfl⟩
    simp -implicitDefEqProofs (maxSteps := 1000000) (disch := omega) only [↓xsP, ↓vc_seq, xsQ, xsT, xsR, xsD, ↓reduceIte, reduceCtorEq, eq_self, ne_eq, imp_self, forall_const, Nat.reduceEqDiff, Nat.reduceAdd, Nat.reduceSub, Nat.reduceMul, Nat.reduceLT, Nat.reduceLeDiff, Nat.reduceBEq, Nat.reduceDiv, Nat.reduceMod, Int.reduceToNat, Int.reduceNeg, Int.reduceAdd, Int.reduceSub, Int.reduceMul, Int.reduceEq, Int.reduceNe, Int.reduceLT, Int.reduceLE, Int.reduceGT, Int.reduceGE, h3, h8, h9, h10]
    refine condI_prop (fun hp => ?_) (fun hp => ?_)
    · have hi' : i < l.length := by omega
      simp -implicitDefEqProofs (maxSteps := 1000000) (disch := omega) only [↓xsP, ↓vc_seq, xsQ, xsT, xsR, xsD, ↓reduceIte, reduceCtorEq, eq_self, ne_eq, imp_self, forall_const, Nat.reduceEqDiff, Nat.reduceAdd, Nat.reduceSub, Nat.reduceMul, Nat.reduceLT, Nat.reduceLeDiff, Nat.reduceBEq, Nat.reduceDiv, Nat.reduceMod, Int.reduceToNat, Int.reduceNeg, Int.reduceAdd, Int.reduceSub, Int.reduceMul, Int.reduceEq, Int.reduceNe, Int.reduceLT, Int.reduceLE, Int.reduceGT, Int.reduceGE, h3, h8, h9, h10]
      refine newI_intro fun p5 hp5 => ?_
      have hg : l[i]? = some (l.getD i default) := by rw [List.getD_eq_getElem?_getD, List.getElem?_eq_getElem hi']; rfl
      generalize hq : l.getD i default = q at hg
      simp -implicitDefEqProofs (maxSteps := 1000000) (disch := omega) only [↓xsP, ↓vc_seq, xsQ, xsT, xsR, xsD, ↓reduceIte, reduceCtorEq, eq_self, ne_eq, imp_self, forall_const, Nat.reduceEqDiff, Nat.reduceAdd, Nat.reduceSub, Nat.reduceMul, Nat.reduceLT, Nat.reduceLeDiff, Nat.reduceBEq, Nat.reduceDiv, Nat.reduceMod, Int.reduceToNat, Int.reduceNeg, Int.reduceAdd, Int.reduceSub, Int.reduceMul, Int.reduceEq, Int.reduceNe, Int.reduceLT, Int.reduceLE, Int.reduceGT, Int.reduceGE, h3, h8, h9, h10, hg]
      refine callI_of ((modelDo_spec (putL (l.take i)) (by have := putL_len (l.take i); rw [List.length_take] at this; omega) (putOp q) id _ ?_).mono ?_)
      · have h5 := lt_of_bnd hp5 (Mem.set_eq _ _ _)
        simp (disch := omega) only [Mem.set_eq, Mem.set_ne]
      · rintro _ _ ⟨rfl, rfl⟩
        have h5 := lt_of_bnd hp5 (Mem.set_eq _ _ _)
        have hpM := (bnd_new hp5).2
        simp -implicitDefEqProofs (maxSteps := 1000000) (disch := omega) only [↓xsP, ↓vc_seq, xsQ, xsT, xsR, xsD, ↓reduceIte, reduceCtorEq, eq_self, ne_eq, imp_self, forall_const, Nat.reduceEqDiff, Nat.reduceAdd, Nat.reduceSub, Nat.reduceMul, Nat.reduceLT, Nat.reduceLeDiff, Nat.reduceBEq, Nat.reduceDiv, Nat.reduceMod, Int.reduceToNat, Int.reduceNeg, Int.reduceAdd, Int.reduceSub, Int.reduceMul, Int.reduceEq, Int.reduceNe, Int.reduceLT, Int.reduceLE, Int.reduceGT, Int.reduceGE, h3, h8, h9, h10]
        refine ⟨_, _, ?_, GStep.le (le_seti (N := _) (b := mapB (putL (l.take (i + 1)))) (M := M) ?_ fun k bk hk h => ?_), i + 1, by omega, rfl, rfl, rfl⟩
        · omega
        · rw [putL_take _ hi', hq, Mem.set_eq]
        · have := lt_of_bnd hid h
          simp (disch := omega) only [Mem.set_ne, h]
    · have hi' : i = l.length := by omega
      subst hi'
      simp -implicitDefEqProofs (maxSteps := 1000000) (disch := omega) only [↓xsP, ↓vc_seq, xsQ, xsT, xsR, xsD, ↓reduceIte, reduceCtorEq, eq_self, ne_eq, imp_self, forall_const, Nat.reduceEqDiff, Nat.reduceAdd, Nat.reduceSub, Nat.reduceMul, Nat.reduceLT, Nat.reduceLeDiff, Nat.reduceBEq, Nat.reduceDiv, Nat.reduceMod, Int.reduceToNat, Int.reduceNeg, Int.reduceAdd, Int.reduceSub, Int.reduceMul, Int.reduceEq, Int.reduceNe, Int.reduceLT, Int.reduceLE, Int.reduceGT, Int.reduceGE, h3]
      refine fin_ok (Mem.le_refl _) ⟨id, hid, rfl, ?_⟩
      rw [List.take_length]

/-- A slice of operations, kept or of a live block. -/
def OpsIs (M : Mem) (s : Lf) (l : List Opn) : Prop := ∃ ido keep, (s = .sl (l.map Opn.row) ∧ True) ∨ (s = .ms ido 0 l.length ∧ M ido = some (.cells 25 (l.map Opn.row) keep))
theorem OpsIs.sl (M : Mem) (l : List Opn) : OpsIs M (.sl (l.map Opn.row)) l := ⟨0, 0, .inl ⟨rfl, trivial⟩⟩
theorem OpsIs.ms {M : Mem} {l : List Opn} {id n keep : Nat} {rows : List (List Lf)} (h : M id = some (.cells 25 rows keep)) (hr : rows = l.map Opn.row) (hn : n = l.length) : OpsIs M (.ms id 0 n) l := ⟨id, keep, .inr ⟨by rw [hn], by rw [h, hr]⟩⟩
noncomputable def runL (s : List Pr) (ops : List Opn) : List Pr := ops.foldl doL s
noncomputable def runA : List Pr → List Opn → List Ans
  | _, [] => []
  | s, op :: r => doA s op :: runA (doL s op) r
theorem runL_snoc (s : List Pr) (l : List Opn) (op : Opn) : runL s (l ++ [op]) = doL (runL s l) op := by simp [runL, List.foldl_append]
theorem runA_snoc (s : List Pr) (l : List Opn) (op : Opn) : runA s (l ++ [op]) = runA s l ++ [doA (runL s l) op] := by
  induction l generalizing s with
  | nil => rfl
  | cons x r ih => 
    show doA s x :: runA (doL s x) (r ++ [op]) = _
    rw [ih]
    rfl
theorem runA_len (s : List Pr) (l : List Opn) : (runA s l).length = l.length := by
  induction l generalizing s with
  | nil => rfl
  | cons x r ih => simp [runA, ih]
theorem take_snoc {α : Type} [Inhabited α] (l : List α) {i : Nat} (hi : i < l.length) : l.take (i + 1) = l.take i ++ [l.getD i default] := by
  rw [List.take_add_one, List.getD_eq_getElem?_getD, List.getElem?_eq_getElem hi]
  rfl
theorem runL_len (s : List Pr) (l : List Opn) : (runL s l).length ≤ s.length + l.length := by
  induction l generalizing s with
  | nil => simp [runL]
  | cons x r ih =>
    have h1 := ih (doL s x)
    have h2 := doL_len s x
    have h3 : runL s (x :: r) = runL (doL s x) r := rfl
    rw [h3]
    simp only [List.length_cons]
    omega
theorem copy_spec (s : List Pr) (hl : s.length ≤ 8796093022207) (id : Nat) (M : Mem) (hM : M id = some (mapB s)) :
    XCalls Go.Proofs.Tryd.prog 36 [.l (.ptr id 0 0)] M fun r M' => ∃ id2, (∀ j, id2 ≤ j → M j = none) ∧ r = .l (.ptr id2 0 0) ∧ M' = M.set id2 (mapB s) := by
  refine xcalls_intro (rs := [.tmp 2]) Go.Proofs.Tryd.func36 rfl (by kernel_rfl) rfl rfl (by kernel_rfl) (by simp) ?_
  simp -implicitDefEqProofs (maxSteps := 1000000) (disch := omega) only [↓xsP, ↓vc_seq, xsQ, xsT, xsR, xsD, ↓reduceIte, reduceCtorEq, eq_self, ne_eq, imp_self, forall_const, Nat.reduceEqDiff, Nat.reduceAdd, Nat.reduceSub, Nat.reduceMul, Nat.reduceLT, Nat.reduceLeDiff, Nat.reduceBEq, Nat.reduceDiv, Nat.reduceMod, Int.reduceToNat, Int.reduceNeg, Int.reduceAdd, Int.reduceSub, Int.reduceMul, Int.reduceEq, Int.reduceNe, Int.reduceLT, Int.reduceLE, Int.reduceGT, Int.reduceGE, hM, mapB]
  refine call_of (clone_spec s hl M) ?_
  simp -implicitDefEqProofs (maxSteps := 1000000) (disch := omega) only [↓xsP, ↓vc_seq, xsQ, xsT, xsR, xsD, ↓reduceIte, reduceCtorEq, eq_self, ne_eq, imp_self, forall_const, Nat.reduceEqDiff, Nat.reduceAdd, Nat.reduceSub, Nat.reduceMul, Nat.reduceLT, Nat.reduceLeDiff, Nat.reduceBEq, Nat.reduceDiv, Nat.reduceMod, Int.reduceToNat, Int.reduceNeg, Int.reduceAdd, Int.reduceSub, Int.reduceMul, Int.reduceEq, Int.reduceNe, Int.reduceLT, Int.reduceLE, Int.reduceGT, Int.reduceGE]
  refine newI_intro fun p hp => ?_
  simp -implicitDefEqProofs (maxSteps := 1000000) (disch := omega) only [↓xsP, ↓vc_seq, xsQ, xsT, xsR, xsD, ↓reduceIte, reduceCtorEq, eq_self, ne_eq, imp_self, forall_const, Nat.reduceEqDiff, Nat.reduceAdd, Nat.reduceSub, Nat.reduceMul, Nat.reduceLT, Nat.reduceLeDiff, Nat.reduceBEq, Nat.reduceDiv, Nat.reduceMod, Int.reduceToNat, Int.reduceNeg, Int.reduceAdd, Int.reduceSub, Int.reduceMul, Int.reduceEq, Int.reduceNe, Int.reduceLT, Int.reduceLE, Int.reduceGT, Int.reduceGE]
  exact fin_ok (Mem.le_refl _) ⟨p, hp, rfl, rfl⟩

theorem asc1 (p : Pr) : Asc [p] := by simp [Asc]
end Go.X
set_option linter.unusedVariables false
set_option maxRecDepth 100000
namespace Go.X

theorem putL_asc (l : List Pr) : Asc (putL l) := by
  have key : ∀ (l s : List Pr), Asc s → Asc (l.foldl (fun s p => doL s (putOp p)) s) := by
    intro l
    induction l with
    | nil => intro s h; exact h
    | cons p r ih => intro s h; exact ih _ (doL_asc _ h)
  exact key l [] (by simp [Asc])
theorem put_look {s : List Pr} (h : Asc s) (p : Pr) (k : Int) : look (doL s (putOp p)) k = if k = p.key then some p.val else look s k := by
  rw [doL_look h (by simp [mayOpB, putOp]) (by simp [putOp]), upd1.eq_def]
  simp [putOp]
/-- The last value of a key. -/
def lastV (k : Int) (o : Option Int) (l : List Pr) : Option Int := l.foldl (fun o p => if k = p.key then some p.val else o) o
theorem puts_look (k : Int) : ∀ (l s : List Pr), Asc s → look (l.foldl (fun s p => doL s (putOp p)) s) k = lastV k (look s k) l
  | [], s, _ => rfl
  | p :: r, s, h => by
    rw [List.foldl_cons, puts_look k r _ (doL_asc _ h), put_look h]
    rfl
theorem putL_look (l : List Pr) (k : Int) : look (putL l) k = lastV k none l := puts_look k l [] (by simp [Asc])
end Go.X
