/- Texts joined: Ag Ah Ai Aj Ak Al Am Aq. -/
import Derived.Lib.AtoiAllCases
import Derived.Test.YtkbcijgbhkahlaaDoorY3
set_option linter.unusedVariables false
set_option linter.unusedSimpArgs false
set_option maxHeartbeats 20000000
set_option maxRecDepth 100000
namespace Go.X
open Go.Proofs.Tryd (prog)

theorem vkeys_spec (root : Int) (ns : List Nd) (hl : ns.length ≤ 140737488355328) (hp : Pok ns) {T : Tr} (hT : Good root ns T) (M : Mem) :
    XCalls Go.Proofs.Tryd.prog 12 [trA root ns] M fun r M' => r = .l (.sl (T.keys.map irow)) ∧ M' = M := by
  obtain ⟨pl, hH, -⟩ := hT.hang
  have hsz := hT.all
  have hfw := hT.few
  have hk2 := T.keys_size
  refine xcalls_intro (rs := [.tmp 2]) Go.Proofs.Tryd.func12 rfl (by kernel_rfl) rfl rfl (by kernel_rfl) (by simp) ?_
  simp -implicitDefEqProofs (maxSteps := 1000000) (disch := omega) only [↓xsP, ↓vc_seq, xsQ, xsT, xsR, xsD, ↓reduceIte, reduceCtorEq, eq_self, ne_eq, imp_self, forall_const, Nat.reduceEqDiff, Nat.reduceAdd, Nat.reduceSub, Nat.reduceMul, Nat.reduceLT, Nat.reduceLeDiff, Nat.reduceBEq, Nat.reduceDiv, Nat.reduceMod, Int.reduceToNat, Int.reduceNeg, Int.reduceAdd, Int.reduceSub, Int.reduceMul, Int.reduceEq, Int.reduceNe, Int.reduceLT, Int.reduceLE, Int.reduceGT, Int.reduceGE, trA]
  refine newI_intro fun id1 hid1 => ?_
  simp -implicitDefEqProofs (maxSteps := 1000000) (disch := omega) only [↓xsP, ↓vc_seq, xsQ, xsT, xsR, xsD, ↓reduceIte, reduceCtorEq, eq_self, ne_eq, imp_self, forall_const, Nat.reduceEqDiff, Nat.reduceAdd, Nat.reduceSub, Nat.reduceMul, Nat.reduceLT, Nat.reduceLeDiff, Nat.reduceBEq, Nat.reduceDiv, Nat.reduceMod, Int.reduceToNat, Int.reduceNeg, Int.reduceAdd, Int.reduceSub, Int.reduceMul, Int.reduceEq, Int.reduceNe, Int.reduceLT, Int.reduceLE, Int.reduceGT, Int.reduceGE]
  refine call_of (tmay_spec root ns hl hp _) ?_
  rw [hT.may]
  simp -implicitDefEqProofs (maxSteps := 1000000) (disch := omega) only [↓xsP, ↓vc_seq, xsQ, xsT, xsR, xsD, ↓reduceIte, reduceCtorEq, eq_self, ne_eq, imp_self, forall_const, Nat.reduceEqDiff, Nat.reduceAdd, Nat.reduceSub, Nat.reduceMul, Nat.reduceLT, Nat.reduceLeDiff, Nat.reduceBEq, Nat.reduceDiv, Nat.reduceMod, Int.reduceToNat, Int.reduceNeg, Int.reduceAdd, Int.reduceSub, Int.reduceMul, Int.reduceEq, Int.reduceNe, Int.reduceLT, Int.reduceLE, Int.reduceGT, Int.reduceGE]
  refine callI_of ((vkeys_spec0 root ns hH (by omega) [] .nils _ _ .nil (by simp only [List.length_nil]; omega)).mono ?_)
  rintro r' M2 ⟨h1, h2⟩
  cases hL : T.isLeaf with
  | true =>
    obtain ⟨rfl, rfl⟩ := h1 hL
    have hk : T.keys = [] := by cases T with | leaf _ _ => rfl | fork _ _ _ => cases hL
    simp -implicitDefEqProofs (maxSteps := 1000000) (disch := omega) only [↓xsP, ↓vc_seq, xsQ, xsT, xsR, xsD, ↓reduceIte, reduceCtorEq, eq_self, ne_eq, imp_self, forall_const, Nat.reduceEqDiff, Nat.reduceAdd, Nat.reduceSub, Nat.reduceMul, Nat.reduceLT, Nat.reduceLeDiff, Nat.reduceBEq, Nat.reduceDiv, Nat.reduceMod, Int.reduceToNat, Int.reduceNeg, Int.reduceAdd, Int.reduceSub, Int.reduceMul, Int.reduceEq, Int.reduceNe, Int.reduceLT, Int.reduceLE, Int.reduceGT, Int.reduceGE]
    refine finI_of (XFin.wk (XFin.le (le_new (Mem.le_refl _) hid1) ⟨?_, rfl⟩))
    rw [hk]
    rfl
  | false =>
    obtain ⟨id2, hid2, rfl, rfl⟩ := h2 hL
    obtain ⟨k12, hid2'⟩ := bnd_new hid2
    simp -implicitDefEqProofs (maxSteps := 1000000) (disch := omega) only [↓xsP, ↓vc_seq, xsQ, xsT, xsR, xsD, ↓reduceIte, reduceCtorEq, eq_self, ne_eq, imp_self, forall_const, Nat.reduceEqDiff, Nat.reduceAdd, Nat.reduceSub, Nat.reduceMul, Nat.reduceLT, Nat.reduceLeDiff, Nat.reduceBEq, Nat.reduceDiv, Nat.reduceMod, Int.reduceToNat, Int.reduceNeg, Int.reduceAdd, Int.reduceSub, Int.reduceMul, Int.reduceEq, Int.reduceNe, Int.reduceLT, Int.reduceLE, Int.reduceGT, Int.reduceGE]
    refine finI_of (XFin.frz id2 (Mem.set_eq _ _ _) (XFin.le (fun k bk hk => ?_) ⟨?_, rfl⟩))
    · have := lt_of_bnd hid1 hk
      simp (disch := omega) only [Mem.set_ne, hk]
    · simp only [frzA, frz1, frzL, List.nil_append, List.length_nil, Nat.zero_add, List.length_map, Nat.le_refl, and_self, if_true, List.drop_zero]
      rw [List.take_of_length_le (by rw [List.length_map]; exact Nat.le_refl _)]
theorem vkeys_bad (root : Int) (ns : List Nd) (hl : ns.length ≤ 140737488355328) (hp : Pok ns) (hT : mayT root ns = false) (M : Mem) :
    XCalls Go.Proofs.Tryd.prog 12 [trA root ns] M fun r M' => r = .l (.sl []) ∧ M' = M := by
  refine xcalls_intro (rs := [.tmp 2]) Go.Proofs.Tryd.func12 rfl (by kernel_rfl) rfl rfl (by kernel_rfl) (by simp) ?_
  simp -implicitDefEqProofs (maxSteps := 1000000) (disch := omega) only [↓xsP, ↓vc_seq, xsQ, xsT, xsR, xsD, ↓reduceIte, reduceCtorEq, eq_self, ne_eq, imp_self, forall_const, Nat.reduceEqDiff, Nat.reduceAdd, Nat.reduceSub, Nat.reduceMul, Nat.reduceLT, Nat.reduceLeDiff, Nat.reduceBEq, Nat.reduceDiv, Nat.reduceMod, Int.reduceToNat, Int.reduceNeg, Int.reduceAdd, Int.reduceSub, Int.reduceMul, Int.reduceEq, Int.reduceNe, Int.reduceLT, Int.reduceLE, Int.reduceGT, Int.reduceGE, trA]
  refine newI_intro fun id1 hid1 => ?_
  simp -implicitDefEqProofs (maxSteps := 1000000) (disch := omega) only [↓xsP, ↓vc_seq, xsQ, xsT, xsR, xsD, ↓reduceIte, reduceCtorEq, eq_self, ne_eq, imp_self, forall_const, Nat.reduceEqDiff, Nat.reduceAdd, Nat.reduceSub, Nat.reduceMul, Nat.reduceLT, Nat.reduceLeDiff, Nat.reduceBEq, Nat.reduceDiv, Nat.reduceMod, Int.reduceToNat, Int.reduceNeg, Int.reduceAdd, Int.reduceSub, Int.reduceMul, Int.reduceEq, Int.reduceNe, Int.reduceLT, Int.reduceLE, Int.reduceGT, Int.reduceGE]
  refine call_of (tmay_spec root ns hl hp _) ?_
  rw [hT]
  simp -implicitDefEqProofs (maxSteps := 1000000) (disch := omega) only [↓xsP, ↓vc_seq, xsQ, xsT, xsR, xsD, ↓reduceIte, reduceCtorEq, eq_self, ne_eq, imp_self, forall_const, Nat.reduceEqDiff, Nat.reduceAdd, Nat.reduceSub, Nat.reduceMul, Nat.reduceLT, Nat.reduceLeDiff, Nat.reduceBEq, Nat.reduceDiv, Nat.reduceMod, Int.reduceToNat, Int.reduceNeg, Int.reduceAdd, Int.reduceSub, Int.reduceMul, Int.reduceEq, Int.reduceNe, Int.reduceLT, Int.reduceLE, Int.reduceGT, Int.reduceGE]
  exact finI_of (XFin.wk (XFin.le (le_new (Mem.le_refl _) hid1) ⟨rfl, rfl⟩))

/-! ### a tree's text -/
def prT (p : Pr) : List UInt8 := Lib.itoa p.key ++ 58 :: Lib.itoa p.val
def prsT : List Pr → List UInt8
  | [] => []
  | p :: r => prT p ++ r.flatMap fun q => 44 :: prT q
theorem prsT_snoc (l : List Pr) (p : Pr) : prsT (l ++ [p]) = prsT l ++ ((if l = [] then [] else [44]) ++ prT p) := by
  cases l with
  | nil => simp [prsT]
  | cons q r => simp [prsT, List.flatMap_append]
def Tr.txt : Tr → List UInt8
  | .leaf ps st => 91 :: prsT ps ++ 124 :: Lib.itoa st ++ [93]
  | .fork k l r => 40 :: l.txt ++ 32 :: Lib.itoa k ++ 32 :: r.txt ++ [41]
def Tr.ints : Tr → Prop
  | .leaf ps st => IntOk' st ∧ AllOk ps
  | .fork k l r => IntOk' k ∧ l.ints ∧ r.ints
theorem prT_len {p : Pr} (h : IntOk' p.key ∧ IntOk' p.val) : (prT p).length ≤ 50 := by
  have h1 := Lib.itoa_length_le p.key h.1.1 h.1.2
  have h2 := Lib.itoa_length_le p.val h.2.1 h.2.2
  rw [prT, List.length_append, List.length_cons]
  omega
theorem prsT_take_len (ps : List Pr) (i : Nat) : (prsT (ps.take i)).length ≤ (prsT ps).length := by
  by_cases h : i ≤ ps.length
  · have key : ∀ (a b : List Pr), (prsT a).length ≤ (prsT (a ++ b)).length := by
      intro a b
      cases a with
      | nil => simp [prsT]
      | cons q r =>
        rw [List.cons_append, prsT, prsT, List.flatMap_append, List.length_append, List.length_append, List.length_append]
        omega
    have := key (ps.take i) (ps.drop i)
    rwa [List.take_append_drop] at this
  · rw [List.take_of_length_le (by omega)]
    exact Nat.le_refl _
theorem prsT_ge (ps : List Pr) : ps.length ≤ (prsT ps).length := by
  cases ps with
  | nil => exact Nat.le_refl _
  | cons p r =>
    have h1 : 1 ≤ (prT p).length := by simp [prT]; omega
    have h2 : r.length ≤ (r.flatMap fun q => 44 :: prT q).length := by
      induction r with
      | nil => exact Nat.le_refl _
      | cons q r ih => simp only [List.flatMap_cons, List.length_append, List.length_cons]; omega
    rw [prsT, List.length_append, List.length_cons]
    omega
/-- A buffer that grows, beside what is kept. -/
structure At (N0 N : Mem) (id : Nat) (l : List UInt8) : Prop where
  le : N0.le N
  own : N id = some (.cells 5 (byR l) 0)
  bnd : ∀ j, id ≤ j → N0 j = none
theorem At.new {N0 N : Mem} {id : Nat} {l : List UInt8} (h : At N0 N id l) {i : Nat} (hi : ∀ j, i ≤ j → N j = none) (X : Blk) : At N0 (N.set i X) id l := by
  have := lt_of_bnd hi h.own
  exact ⟨le_new h.le (fun j hj => by
    cases hm : N0 j with
    | none => rfl
    | some bk => have := hi j hj; rw [h.le _ _ hm] at this; cases this), by rw [Mem.set_ne _ _ _ _ (by omega)]; exact h.own, h.bnd⟩
theorem At.canon {N0 N : Mem} {id : Nat} {l : List UInt8} (h : At N0 N id l) : (N0.set id (.cells 5 (byR l) 0)).le N := fun k bk hk => by
  rw [Mem.set_app] at hk
  split at hk
  · rename_i e
    rw [← e, h.own]
    exact hk
  · exact h.le _ _ hk
theorem At.of {N0 : Mem} {id : Nat} {l : List UInt8} (h : ∀ j, id ≤ j → N0 j = none) : At N0 (N0.set id (.cells 5 (byR l) 0)) id l :=
  ⟨le_new (Mem.le_refl _) h, Mem.set_eq _ _ _, h⟩
theorem At.call {N0 N : Mem} {id : Nat} {l : List UInt8} (h : At N0 N id l) {id' : Nat} (hid : ∀ j, id' ≤ j → N j = none) (l' : List UInt8) : At N0 ((N.del id).set id' (.cells 5 (byR l') 0)) id' l' := by
  refine ⟨fun k bk hk' => ?_, Mem.set_eq _ _ _, fun j hj => ?_⟩
  · have h1 := h.le _ _ hk'
    have := lt_of_bnd hid h1
    have h2 : id ≠ k := fun e => by have := h.bnd id (Nat.le_refl _); rw [e, hk'] at this; cases this
    rw [Mem.set_ne _ _ _ _ (by omega), Mem.del_ne _ _ _ h2]
    exact h1
  · cases hm : N0 j with
    | none => rfl
    | some bk => have := hid j hj; rw [h.le _ _ hm] at this; cases this
/-- What is kept when a buffer grows. -/
def Kept (N N' : Mem) (id : Nat) : Prop := ∀ k bk, N k = some bk → k ≠ id → N' k = some bk
theorem app_at {N0 N : Mem} {id : Nat} {l bs : List UInt8} (h : At N0 N id l) {tx : TypeId} {src : AV} (hsrc : ∀ te, tiOf Go.Proofs.Tryd.prog 5 = some te → srcRows Go.Proofs.Tryd.prog N 61 tx 5 te src = some (byR bs)) (hne : bs ≠ []) (hlen : (l ++ bs).length ≤ 1000000000) {K : AV → Mem → Prop}
    (hk : ∀ id' N', At N0 N' id' (l ++ bs) → Kept N N' id → K (.l (.ms id' 0 (l ++ bs).length)) N') : @appI Go.Proofs.Tryd.prog N 61 tx (.l (.ms id 0 l.length)) src ⟨K⟩ := by
  refine app_buf (.ms h.own) hsrc hne hlen fun id' hid => hk id' _ ⟨fun k bk hk' => ?_, Mem.set_eq _ _ _, fun j hj => ?_⟩ fun k bk hk' hne' => ?_
  · have h1 := h.le _ _ hk'
    have := lt_of_bnd hid h1
    have h2 : id ≠ k := fun e => by have := h.bnd id (Nat.le_refl _); rw [e, hk'] at this; cases this
    rw [Mem.set_ne _ _ _ _ (by omega), Mem.del_ne _ _ _ h2]
    exact h1
  · cases hm : N0 j with
    | none => rfl
    | some bk => have := hid j hj; rw [h.le _ _ hm] at this; cases this
  · have := lt_of_bnd hid hk'
    rw [Mem.set_ne _ _ _ _ (by omega), Mem.del_ne _ _ _ (Ne.symm hne')]
    exact hk'
theorem appI_at {N0 N : Mem} {id : Nat} {l : List UInt8} (h : At N0 N id l) (n : Int) (hn : IntOk' n) (hl : l.length ≤ 10000000) : XCalls Go.Proofs.Tryd.prog 48 [.l (.ms id 0 l.length), .l (.int .i64 n), .l (.int .i64 10)] N fun r N' =>
    ∃ id', r = .l (.ms id' 0 (l ++ Lib.itoa n).length) ∧ At N0 N' id' (l ++ Lib.itoa n) ∧ Kept N N' id := by
  refine (appI_spec (.ms h.own) n hn.1 hn.2 hl).mono ?_
  rintro _ _ ⟨id', hid, rfl, rfl⟩
  refine ⟨id', rfl, ⟨fun k bk hk' => ?_, Mem.set_eq _ _ _, fun j hj => ?_⟩, fun k bk hk' hne' => ?_⟩
  · have h1 := h.le _ _ hk'
    have := lt_of_bnd hid h1
    have h2 : id ≠ k := fun e => by have := h.bnd id (Nat.le_refl _); rw [e, hk'] at this; cases this
    rw [Mem.set_ne _ _ _ _ (by omega), Mem.del_ne _ _ _ h2]
    exact h1
  · cases hm : N0 j with
    | none => rfl
    | some bk => have := hid j hj; rw [h.le _ _ hm] at this; cases this
  · have := lt_of_bnd hid hk'
    rw [Mem.set_ne _ _ _ _ (by omega), Mem.del_ne _ _ _ (Ne.symm hne')]
    exact hk'
theorem src_lit {N : Mem} {pb : Nat} (c : UInt8) {te : TI} : srcRows Go.Proofs.Tryd.prog (N.set pb (.cells 5 [[.int .u8 c.toNat]] 0)) 61 61 5 te (.l (.ms pb 0 1)) = some (byR [c]) := by
  unfold srcRows
  rw [if_pos rfl]
  simp only [Mem.set_eq]
  rfl
theorem wapp_by {N : Mem} {id nid : Nat} {l bs : List UInt8} (own : N id = some (.cells 5 (byR l) 0)) {src : AV} (hsrc : ∀ te, srcRows Go.Proofs.Tryd.prog N 61 61 5 te src = some (byR bs)) (hlen : (l ++ bs).length ≤ 1000000000) {C : AV → Eff → Prop}
    (h : C (.l (.ms nid 0 (l ++ bs).length)) [(id, none), (nid, some (.cells 5 (byR (l ++ bs)) 0))]) : @wappI Go.Proofs.Tryd.prog N nid 61 61 (.l (.ms id 0 l.length)) src ⟨C⟩ := by
  rw [List.length_append] at hlen
  refine wapp_ms _ _ _ _ _ 5 _ _ ti_61 rfl ti_5 (by kernel_rfl) (by decide) id l.length _ (rows := byR l) (keep := 0) (byR bs) own (hsrc _) (by rw [byR_len]; exact Nat.le_refl _) (Nat.zero_le _) ?_ ?_ ?_
  · rw [byR_len]
    show (l.length + bs.length) * 1 ≤ _
    omega
  · rw [byR_len]
    omega
  · rw [List.take_of_length_le (by rw [byR_len]; exact Nat.le_refl _), ← byR_app, byR_len, ← List.length_append]
    exact h
theorem wapp_by0 {N : Mem} {nid : Nat} {bs : List UInt8} (hne : bs ≠ []) {src : AV} (hsrc : ∀ te, srcRows Go.Proofs.Tryd.prog N 61 61 5 te src = some (byR bs)) (hlen : bs.length ≤ 1000000000) {C : AV → Eff → Prop}
    (h : C (.l (.ms nid 0 bs.length)) [(nid, some (.cells 5 (byR bs) 0))]) : @wappI Go.Proofs.Tryd.prog N nid 61 61 (.l .nils) src ⟨C⟩ := by
  have hs := hsrc
  refine wapp_sb ti_61 rfl ti_5 (by kernel_rfl) (by decide) (by decide) SB.nil (bs := byR bs) (hsrc _) (byR_ne hne) (by rw [byR_len, List.length_nil]; omega) ?_
  rw [byR_len, List.length_nil, Nat.zero_add]
  exact h
theorem wappI_by {N : Mem} {id nid : Nat} {l : List UInt8} (own : N id = some (.cells 5 (byR l) 0)) (n : Int) (hn : IntOk' n) (hl : l.length ≤ 10000000) {C : AV → Eff → Prop}
    (h : C (.l (.ms nid 0 (l ++ Lib.itoa n).length)) [(id, none), (nid, some (.cells 5 (byR (l ++ Lib.itoa n)) 0))]) : @wcallI Go.Proofs.Tryd.prog 48 [.l (.ms id 0 l.length), .l (.int .i64 n), .l (.int .i64 10)] N nid ⟨C⟩ :=
  wcall_new (l ++ Lib.itoa n).length (.cells 5 (byR (l ++ Lib.itoa n)) 0) [id] (fun M' hle => (appI_spec (.ms (hle _ _ own)) n hn.1 hn.2 hl).mono (by
    rintro _ _ ⟨id', hid', rfl, rfl⟩
    exact ⟨id', hid', rfl, Mem.le_refl _⟩)) h
theorem vlay_spec (root : Int) (ns : List Nd) : ∀ {a : Int} {T : Tr} {pl : List Nat}, Hang ns a T pl → T.ints → ∀ (l : List UInt8) (x : Lf) (M M0 : Mem), Buf M x l M0 → l.length + T.txt.length ≤ 1000000 →
    XCalls Go.Proofs.Tryd.prog 31 [trA root ns, .l (.int .i64 a), .l x] M fun r M' =>
      ∃ id', (∀ j, id' ≤ j → M j = none) ∧ r = .l (.ms id' 0 (l ++ T.txt).length) ∧ M' = M0.set id' (.cells 5 (byR (l ++ T.txt)) 0) := by
  intro a T pl h
  induction h with
  | @leaf i ps st hi h =>
    intro hint l x M M0 hb hl
    refine xcalls_intro (rs := [.tmp 6]) Go.Proofs.Tryd.func31 rfl (by kernel_rfl) rfl rfl (by kernel_rfl) (by simp) ?_
    simp -implicitDefEqProofs (maxSteps := 1000000) (disch := omega) only [↓xsP, ↓vc_seq, xsQ, xsT, xsR, xsD, ↓reduceIte, reduceCtorEq, eq_self, ne_eq, imp_self, forall_const, Nat.reduceEqDiff, Nat.reduceAdd, Nat.reduceSub, Nat.reduceMul, Nat.reduceLT, Nat.reduceLeDiff, Nat.reduceBEq, Nat.reduceDiv, Nat.reduceMod, Int.reduceToNat, Int.reduceNeg, Int.reduceAdd, Int.reduceSub, Int.reduceMul, Int.reduceEq, Int.reduceNe, Int.reduceLT, Int.reduceLE, Int.reduceGT, Int.reduceGE, trA]
    refine newI_intro fun id3 hid3 => ?_
    have hb3 := hb.set hid3 (.cells 24 [[.int .i64 root, .sl (ns.map Nd.row)]] 0)
    simp -implicitDefEqProofs (maxSteps := 1000000) (disch := omega) only [↓xsP, ↓vc_seq, xsQ, xsT, xsR, xsD, ↓reduceIte, reduceCtorEq, eq_self, ne_eq, imp_self, forall_const, Nat.reduceEqDiff, Nat.reduceAdd, Nat.reduceSub, Nat.reduceMul, Nat.reduceLT, Nat.reduceLeDiff, Nat.reduceBEq, Nat.reduceDiv, Nat.reduceMod, Int.reduceToNat, Int.reduceNeg, Int.reduceAdd, Int.reduceSub, Int.reduceMul, Int.reduceEq, Int.reduceNe, Int.reduceLT, Int.reduceLE, Int.reduceGT, Int.reduceGE, h]
    refine newI_intro fun id7 hid7 => ?_
    have hb7 := hb3.set hid7 (.cells 46 [(leafN ps st).row] 0)
    obtain ⟨k37, hid7'⟩ := bnd_new hid7
    rw [row_nd] at hb7
    have hro : (leafN ps st).route = false := rfl
    have hps : (leafN ps st).pairs = ps := rfl
    have hst : (leafN ps st).stat = st := rfl
    rw [hro, hps, hst] at hb7
    simp -implicitDefEqProofs (maxSteps := 1000000) (disch := omega) only [↓xsP, ↓vc_seq, xsQ, xsT, xsR, xsD, ↓reduceIte, reduceCtorEq, eq_self, ne_eq, imp_self, forall_const, Nat.reduceEqDiff, Nat.reduceAdd, Nat.reduceSub, Nat.reduceMul, Nat.reduceLT, Nat.reduceLeDiff, Nat.reduceBEq, Nat.reduceDiv, Nat.reduceMod, Int.reduceToNat, Int.reduceNeg, Int.reduceAdd, Int.reduceSub, Int.reduceMul, Int.reduceEq, Int.reduceNe, Int.reduceLT, Int.reduceLE, Int.reduceGT, Int.reduceGE, h, hro, hps, hst]
    refine newI_intro fun idp hidp => ?_
    have hbp := hb7.set hidp (.cells 5 [[.int .u8 91]] 0)
    obtain ⟨k7p, hidp'⟩ := bnd_new hidp
    obtain ⟨k3p, hidpM⟩ := bnd_new hidp'
    simp -implicitDefEqProofs (maxSteps := 1000000) (disch := omega) only [↓xsP, ↓vc_seq, xsQ, xsT, xsR, xsD, ↓reduceIte, reduceCtorEq, eq_self, ne_eq, imp_self, forall_const, Nat.reduceEqDiff, Nat.reduceAdd, Nat.reduceSub, Nat.reduceMul, Nat.reduceLT, Nat.reduceLeDiff, Nat.reduceBEq, Nat.reduceDiv, Nat.reduceMod, Int.reduceToNat, Int.reduceNeg, Int.reduceAdd, Int.reduceSub, Int.reduceMul, Int.reduceEq, Int.reduceNe, Int.reduceLT, Int.reduceLE, Int.reduceGT, Int.reduceGE, h, hro, hps, hst]
    have htl : (Tr.leaf ps st).txt.length = 1 + (prsT ps).length + (1 + (Lib.itoa st).length) + 1 := by
      simp [Tr.txt]
      omega
    rw [htl] at hl
    refine app_buf hbp (bs := [91]) (fun te _ => src_lit 91) (by simp) (by rw [List.length_append]; simp only [List.length_cons, List.length_nil]; omega) (fun id1 hid1 => ?_)
    have hN0 : ∃ N0, N0 = (M0.set id3 (.cells 24 [[.int .i64 root, .sl (ns.map Nd.row)]] 0)).set id7 (.cells 46 [[.bool false, .int .i64 (leafN ps st).key, .int .i64 (leafN ps st).left, .int .i64 (leafN ps st).right, .sl (ps.map Pr.row), .int .i64 st]] 0) := ⟨_, rfl⟩
    obtain ⟨N0, eN0⟩ := hN0
    rw [← eN0] at hbp ⊢
    have hN07 : N0 id7 = some (.cells 46 [[.bool false, .int .i64 (leafN ps st).key, .int .i64 (leafN ps st).left, .int .i64 (leafN ps st).right, .sl (ps.map Pr.row), .int .i64 st]] 0) := by rw [eN0, Mem.set_eq]
    have hNb : ∀ j, id1 ≤ j → N0 j = none := fun j hj => by
      cases hm : N0 j with
      | none => rfl
      | some bk =>
        have h1 := hid1 j hj
        rw [eN0] at hm
        have h2 := ((hb.set hid3 _).set hid7 _).le _ _ hm
        have := lt_of_bnd hidp h2
        rw [Mem.set_ne _ _ _ _ (by omega), h2] at h1
        cases h1
    have hMb : ∀ j, N0 j = none → M0 j = none := fun j hj => by
      cases hm : M0 j with
      | none => rfl
      | some bk =>
        have := lt_of_bnd hid3 (hb.le _ _ hm)
        rw [eN0, Mem.set_ne _ _ _ _ (by omega), Mem.set_ne _ _ _ _ (by omega), hm] at hj
        cases hj
    obtain ⟨kp1, -⟩ := bnd_new hid1
    simp -implicitDefEqProofs (maxSteps := 1000000) (disch := omega) only [↓xsP, ↓vc_seq, xsQ, xsT, xsR, xsD, ↓reduceIte, reduceCtorEq, eq_self, ne_eq, imp_self, forall_const, Nat.reduceEqDiff, Nat.reduceAdd, Nat.reduceSub, Nat.reduceMul, Nat.reduceLT, Nat.reduceLeDiff, Nat.reduceBEq, Nat.reduceDiv, Nat.reduceMod, Int.reduceToNat, Int.reduceNeg, Int.reduceAdd, Int.reduceSub, Int.reduceMul, Int.reduceEq, Int.reduceNe, Int.reduceLT, Int.reduceLE, Int.reduceGT, Int.reduceGE, hN07]
    refine loopI_gs (GStep.le (M' := N0.set id1 (.cells 5 (byR (l ++ [91])) 0)) ?_) ?_
    · intro k bk hk
      rw [Mem.set_app] at hk ⊢
      split at hk
      · rename_i e; rw [if_pos e]; exact hk
      · rename_i e
        have h2 : k < idp := by
          rw [eN0] at hk
          exact lt_of_bnd hidp (((hb.set hid3 _).set hid7 _).le _ _ hk)
        rw [if_neg e, Mem.set_ne _ _ _ _ (by omega)]
        exact hk
    obtain ⟨hst1, hps1⟩ := hint
    refine xloop (by kernel_rfl) (fun k fr M2 => ∃ (j idb : Nat) (lb : List UInt8), j ≤ ps.length ∧ k = ps.length - j ∧ (∀ i, idb ≤ i → N0 i = none) ∧ lb = l ++ 91 :: prsT (ps.take j) ∧ fr 2 = .l (.ms idb 0 lb.length) ∧ fr 7 = .l (.ptr id7 0 0) ∧ fr 43 = .l (.sl (ps.map Pr.row)) ∧ fr 44 = .l (.int .i64 ps.length) ∧ fr 45 = .l (.int .i64 j) ∧ M2 = N0.set idb (.cells 5 (byR lb) 0)) ps.length ?_ ?_
    · exact ⟨0, id1, l ++ [91], Nat.zero_le _, rfl, hNb, rfl, by simp -implicitDefEqProofs (maxSteps := 1000000) (disch := omega) only [↓xsP, ↓vc_seq, xsQ, xsT, xsR, xsD, ↓reduceIte, reduceCtorEq, eq_self, ne_eq, imp_self, forall_const, Nat.reduceEqDiff, Nat.reduceAdd, Nat.reduceSub, Nat.reduceMul, Nat.reduceLT, Nat.reduceLeDiff, Nat.reduceBEq, Nat.reduceDiv, Nat.reduceMod, Int.reduceToNat, Int.reduceNeg, Int.reduceAdd, Int.reduceSub, Int.reduceMul, Int.reduceEq, Int.reduceNe, Int.reduceLT, Int.reduceLE, Int.reduceGT, Int.reduceGE], by simp -implicitDefEqProofs (maxSteps := 1000000) (disch := omega) only [↓xsP, ↓vc_seq, xsQ, xsT, xsR, xsD, ↓reduceIte, reduceCtorEq, eq_self, ne_eq, imp_self, forall_const, Nat.reduceEqDiff, Nat.reduceAdd, Nat.reduceSub, Nat.reduceMul, Nat.reduceLT, Nat.reduceLeDiff, Nat.reduceBEq, Nat.reduceDiv, Nat.reduceMod, Int.reduceToNat, Int.reduceNeg, Int.reduceAdd, Int.reduceSub, Int.reduceMul, Int.reduceEq, Int.reduceNe, Int.reduceLT, Int.reduceLE, Int.reduceGT, Int.reduceGE], by simp -implicitDefEqProofs (maxSteps := 1000000) (disch := omega) only [↓xsP, ↓vc_seq, xsQ, xsT, xsR, xsD, ↓reduceIte, reduceCtorEq, eq_self, ne_eq, imp_self, forall_const, Nat.reduceEqDiff, Nat.reduceAdd, Nat.reduceSub, Nat.reduceMul, Nat.reduceLT, Nat.reduceLeDiff, Nat.reduceBEq, Nat.reduceDiv, Nat.reduceMod, Int.reduceToNat, Int.reduceNeg, Int.reduceAdd, Int.reduceSub, Int.reduceMul, Int.reduceEq, Int.reduceNe, Int.reduceLT, Int.reduceLE, Int.reduceGT, Int.reduceGE], by simp -implicitDefEqProofs (maxSteps := 1000000) (disch := omega) only [↓xsP, ↓vc_seq, xsQ, xsT, xsR, xsD, ↓reduceIte, reduceCtorEq, eq_self, ne_eq, imp_self, forall_const, Nat.reduceEqDiff, Nat.reduceAdd, Nat.reduceSub, Nat.reduceMul, Nat.reduceLT, Nat.reduceLeDiff, Nat.reduceBEq, Nat.reduceDiv, Nat.reduceMod, Int.reduceToNat, Int.reduceNeg, Int.reduceAdd, Int.reduceSub, Int.reduceMul, Int.reduceEq, Int.reduceNe, Int.reduceLT, Int.reduceLE, Int.reduceGT, Int.reduceGE], by simp -implicitDefEqProofs (maxSteps := 1000000) (disch := omega) only [↓xsP, ↓vc_seq, xsQ, xsT, xsR, xsD, ↓reduceIte, reduceCtorEq, eq_self, ne_eq, imp_self, forall_const, Nat.reduceEqDiff, Nat.reduceAdd, Nat.reduceSub, Nat.reduceMul, Nat.reduceLT, Nat.reduceLeDiff, Nat.reduceBEq, Nat.reduceDiv, Nat.reduceMod, Int.reduceToNat, Int.reduceNeg, Int.reduceAdd, Int.reduceSub, Int.reduceMul, Int.reduceEq, Int.reduceNe, Int.reduceLT, Int.reduceLE, Int.reduceGT, Int.reduceGE, Int.cast_ofNat_Int], rfl⟩
    rintro k fr M2 ⟨j, idb, lb, hj, rfl, hbb, hlb, f2, f7, f43, f44, f45, rfl⟩
    have hge := prsT_ge ps
    have A0 : At N0 (N0.set idb (.cells 5 (byR lb) 0)) idb lb := At.of hbb
    have htk := prsT_take_len ps j
    have hlbl : lb.length = l.length + (1 + (prsT (ps.take j)).length) := by rw [hlb]; simp; omega
    generalize N0.set idb (.cells 5 (byR lb) 0) = N at A0 ⊢
    have hN7 := A0.le _ _ hN07
    simp -implicitDefEqProofs (maxSteps := 1000000) (disch := omega) only [↓xsP, ↓vc_seq, xsQ, xsT, xsR, xsD, ↓reduceIte, reduceCtorEq, eq_self, ne_eq, imp_self, forall_const, Nat.reduceEqDiff, Nat.reduceAdd, Nat.reduceSub, Nat.reduceMul, Nat.reduceLT, Nat.reduceLeDiff, Nat.reduceBEq, Nat.reduceDiv, Nat.reduceMod, Int.reduceToNat, Int.reduceNeg, Int.reduceAdd, Int.reduceSub, Int.reduceMul, Int.reduceEq, Int.reduceNe, Int.reduceLT, Int.reduceLE, Int.reduceGT, Int.reduceGE, f2, f7, f43, f44, f45]
    refine condI_prop (fun hlt => ?_) (fun hlt => ?_)
    · have hil : j < ps.length := by omega
      obtain ⟨p, hp⟩ : ∃ p, ps.getD j default = p := ⟨_, rfl⟩
      have hpo := hps1 _ (getD_mem' ps default hil)
      rw [hp] at hpo
      have htk1 := prsT_take_len ps (j + 1)
      have hsn : prsT (ps.take (j + 1)) = prsT (ps.take j) ++ ((if ps.take j = [] then [] else [44]) ++ prT p) := by rw [take_sc ps default hil, hp, prsT_snoc]
      rw [hsn] at htk1
      simp only [List.length_append, prT, List.length_cons] at htk1
      simp -implicitDefEqProofs (maxSteps := 1000000) (disch := omega) only [↓xsP, ↓vc_seq, xsQ, xsT, xsR, xsD, ↓reduceIte, reduceCtorEq, eq_self, ne_eq, imp_self, forall_const, Nat.reduceEqDiff, Nat.reduceAdd, Nat.reduceSub, Nat.reduceMul, Nat.reduceLT, Nat.reduceLeDiff, Nat.reduceBEq, Nat.reduceDiv, Nat.reduceMod, Int.reduceToNat, Int.reduceNeg, Int.reduceAdd, Int.reduceSub, Int.reduceMul, Int.reduceEq, Int.reduceNe, Int.reduceLT, Int.reduceLE, Int.reduceGT, Int.reduceGE, f2, f7, f43, f44, f45, hp]
      refine newI_intro fun id9 hid9 => ?_
      have A1 := A0.new hid9 (.cells 79 [[.int .i64 p.key, .int .i64 p.val]] 0)
      have h99 := Mem.set_eq N id9 (.cells 79 [[.int .i64 p.key, .int .i64 p.val]] 0)
      simp -implicitDefEqProofs (maxSteps := 1000000) (disch := omega) only [↓xsP, ↓vc_seq, xsQ, xsT, xsR, xsD, ↓reduceIte, reduceCtorEq, eq_self, ne_eq, imp_self, forall_const, Nat.reduceEqDiff, Nat.reduceAdd, Nat.reduceSub, Nat.reduceMul, Nat.reduceLT, Nat.reduceLeDiff, Nat.reduceBEq, Nat.reduceDiv, Nat.reduceMod, Int.reduceToNat, Int.reduceNeg, Int.reduceAdd, Int.reduceSub, Int.reduceMul, Int.reduceEq, Int.reduceNe, Int.reduceLT, Int.reduceLE, Int.reduceGT, Int.reduceGE, f2, f7, f43, f44, f45, hp]
      generalize N.set id9 (.cells 79 [[.int .i64 p.key, .int .i64 p.val]] 0) = N1 at A1 h99 ⊢
      have hk1 := Lib.itoa_length_le p.key hpo.1.1 hpo.1.2
      have hk2 := Lib.itoa_length_le p.val hpo.2.1 hpo.2.2
      refine condI_prop (fun hj0 => ?_) (fun hj0 => ?_)
      · have htne : ps.take j ≠ [] := fun e => by
          have := congrArg List.length e
          rw [List.length_take, List.length_nil] at this
          omega
        rw [if_neg htne] at htk1
        simp only [List.length_cons, List.length_nil] at htk1
        simp -implicitDefEqProofs (maxSteps := 1000000) (disch := omega) only [↓xsP, ↓vc_seq, xsQ, xsT, xsR, xsD, ↓reduceIte, reduceCtorEq, eq_self, ne_eq, imp_self, forall_const, Nat.reduceEqDiff, Nat.reduceAdd, Nat.reduceSub, Nat.reduceMul, Nat.reduceLT, Nat.reduceLeDiff, Nat.reduceBEq, Nat.reduceDiv, Nat.reduceMod, Int.reduceToNat, Int.reduceNeg, Int.reduceAdd, Int.reduceSub, Int.reduceMul, Int.reduceEq, Int.reduceNe, Int.reduceLT, Int.reduceLE, Int.reduceGT, Int.reduceGE, f2, f7, f43, f44, f45]
        refine newI_intro fun idp2 hidp2 => ?_
        have B1 := A1.new hidp2 (.cells 5 [[.int .u8 44]] 0)
        have g9 : (N1.set idp2 (.cells 5 [[.int .u8 44]] 0)) id9 = _ := (Mem.set_ne _ _ _ _ (by have := lt_of_bnd hidp2 h99; omega)).trans h99
        simp -implicitDefEqProofs (maxSteps := 1000000) (disch := omega) only [↓xsP, ↓vc_seq, xsQ, xsT, xsR, xsD, ↓reduceIte, reduceCtorEq, eq_self, ne_eq, imp_self, forall_const, Nat.reduceEqDiff, Nat.reduceAdd, Nat.reduceSub, Nat.reduceMul, Nat.reduceLT, Nat.reduceLeDiff, Nat.reduceBEq, Nat.reduceDiv, Nat.reduceMod, Int.reduceToNat, Int.reduceNeg, Int.reduceAdd, Int.reduceSub, Int.reduceMul, Int.reduceEq, Int.reduceNe, Int.reduceLT, Int.reduceLE, Int.reduceGT, Int.reduceGE, f2, f7, f43, f44, f45]
        refine app_at B1 (bs := [44]) (fun te _ => src_lit 44) (by simp) (by simp only [List.length_append, List.length_cons, List.length_nil]; omega) fun idc N2 A K2 => ?_
        have h9 := K2 _ _ g9 (ne_ty g9 B1.own (by decide))
        obtain ⟨lc, hlc⟩ : ∃ lc, lc = lb ++ [44] := ⟨_, rfl⟩
        rw [← hlc] at A ⊢
        have hlcl : lc.length = lb.length + 1 := by rw [hlc]; simp
        have n9 := ne_ty h9 A.own (by decide)
        simp -implicitDefEqProofs (maxSteps := 1000000) (disch := omega) only [↓xsP, ↓vc_seq, xsQ, xsT, xsR, xsD, ↓reduceIte, reduceCtorEq, eq_self, ne_eq, imp_self, forall_const, Nat.reduceEqDiff, Nat.reduceAdd, Nat.reduceSub, Nat.reduceMul, Nat.reduceLT, Nat.reduceLeDiff, Nat.reduceBEq, Nat.reduceDiv, Nat.reduceMod, Int.reduceToNat, Int.reduceNeg, Int.reduceAdd, Int.reduceSub, Int.reduceMul, Int.reduceEq, Int.reduceNe, Int.reduceLT, Int.reduceLE, Int.reduceGT, Int.reduceGE, f2, f7, f43, f44, f45, h9]
        refine callI_of ((appI_at A p.key hpo.1 (by omega)).mono ?_)
        rintro _ N3 ⟨id4, rfl, A4, K4⟩
        have h94 := K4 _ _ h9 n9
        simp -implicitDefEqProofs (maxSteps := 1000000) (disch := omega) only [↓xsP, ↓vc_seq, xsQ, xsT, xsR, xsD, ↓reduceIte, reduceCtorEq, eq_self, ne_eq, imp_self, forall_const, Nat.reduceEqDiff, Nat.reduceAdd, Nat.reduceSub, Nat.reduceMul, Nat.reduceLT, Nat.reduceLeDiff, Nat.reduceBEq, Nat.reduceDiv, Nat.reduceMod, Int.reduceToNat, Int.reduceNeg, Int.reduceAdd, Int.reduceSub, Int.reduceMul, Int.reduceEq, Int.reduceNe, Int.reduceLT, Int.reduceLE, Int.reduceGT, Int.reduceGE, f2, f7, f43, f44, f45, h94]
        refine newI_intro fun idq hidq => ?_
        have A5 := A4.new hidq (.cells 5 [[.int .u8 58]] 0)
        have h95 : (N3.set idq (.cells 5 [[.int .u8 58]] 0)) id9 = _ := (Mem.set_ne _ _ _ _ (by have := lt_of_bnd hidq h94; omega)).trans h94
        simp -implicitDefEqProofs (maxSteps := 1000000) (disch := omega) only [↓xsP, ↓vc_seq, xsQ, xsT, xsR, xsD, ↓reduceIte, reduceCtorEq, eq_self, ne_eq, imp_self, forall_const, Nat.reduceEqDiff, Nat.reduceAdd, Nat.reduceSub, Nat.reduceMul, Nat.reduceLT, Nat.reduceLeDiff, Nat.reduceBEq, Nat.reduceDiv, Nat.reduceMod, Int.reduceToNat, Int.reduceNeg, Int.reduceAdd, Int.reduceSub, Int.reduceMul, Int.reduceEq, Int.reduceNe, Int.reduceLT, Int.reduceLE, Int.reduceGT, Int.reduceGE, f2, f7, f43, f44, f45, h94]
        refine app_at A5 (bs := [58]) (fun te _ => src_lit 58) (by simp) (by simp only [List.length_append, List.length_cons, List.length_nil]; omega) fun id6 N6 A6 K6 => ?_
        have h96 := K6 _ _ h95 (ne_ty h95 A5.own (by decide))
        simp -implicitDefEqProofs (maxSteps := 1000000) (disch := omega) only [↓xsP, ↓vc_seq, xsQ, xsT, xsR, xsD, ↓reduceIte, reduceCtorEq, eq_self, ne_eq, imp_self, forall_const, Nat.reduceEqDiff, Nat.reduceAdd, Nat.reduceSub, Nat.reduceMul, Nat.reduceLT, Nat.reduceLeDiff, Nat.reduceBEq, Nat.reduceDiv, Nat.reduceMod, Int.reduceToNat, Int.reduceNeg, Int.reduceAdd, Int.reduceSub, Int.reduceMul, Int.reduceEq, Int.reduceNe, Int.reduceLT, Int.reduceLE, Int.reduceGT, Int.reduceGE, f2, f7, f43, f44, f45, h96]
        refine callI_of ((appI_at A6 p.val hpo.2 (by simp only [List.length_append, List.length_cons, List.length_nil]; omega)).mono ?_)
        rintro _ N7 ⟨id8, rfl, A8, K8⟩
        simp -implicitDefEqProofs (maxSteps := 1000000) (disch := omega) only [↓xsP, ↓vc_seq, xsQ, xsT, xsR, xsD, ↓reduceIte, reduceCtorEq, eq_self, ne_eq, imp_self, forall_const, Nat.reduceEqDiff, Nat.reduceAdd, Nat.reduceSub, Nat.reduceMul, Nat.reduceLT, Nat.reduceLeDiff, Nat.reduceBEq, Nat.reduceDiv, Nat.reduceMod, Int.reduceToNat, Int.reduceNeg, Int.reduceAdd, Int.reduceSub, Int.reduceMul, Int.reduceEq, Int.reduceNe, Int.reduceLT, Int.reduceLE, Int.reduceGT, Int.reduceGE, f2, f7, f43, f44, f45]
        refine ⟨ps.length - (j + 1), _, by omega, A8.canon, j + 1, id8, _, by omega, rfl, A8.bnd, ?_, rfl, by simp, rfl⟩
        rw [hlc, hlb, hsn, if_neg htne]
        simp [prT]
      · have htne : ps.take j = [] := List.length_eq_zero_iff.1 (by rw [List.length_take]; omega)
        rw [if_pos htne] at htk1
        simp only [List.length_nil] at htk1
        have A := A1
        have h9 := h99
        obtain ⟨lc, hlc⟩ : ∃ lc, lc = lb := ⟨_, rfl⟩
        have hlcl : lc.length = lb.length := by rw [hlc]
        rw [← hlc] at A f2
        have n9 := ne_ty h9 A.own (by decide)
        simp -implicitDefEqProofs (maxSteps := 1000000) (disch := omega) only [↓xsP, ↓vc_seq, xsQ, xsT, xsR, xsD, ↓reduceIte, reduceCtorEq, eq_self, ne_eq, imp_self, forall_const, Nat.reduceEqDiff, Nat.reduceAdd, Nat.reduceSub, Nat.reduceMul, Nat.reduceLT, Nat.reduceLeDiff, Nat.reduceBEq, Nat.reduceDiv, Nat.reduceMod, Int.reduceToNat, Int.reduceNeg, Int.reduceAdd, Int.reduceSub, Int.reduceMul, Int.reduceEq, Int.reduceNe, Int.reduceLT, Int.reduceLE, Int.reduceGT, Int.reduceGE, f2, f7, f43, f44, f45, h9]
        refine callI_of ((appI_at A p.key hpo.1 (by omega)).mono ?_)
        rintro _ N3 ⟨id4, rfl, A4, K4⟩
        have h94 := K4 _ _ h9 n9
        simp -implicitDefEqProofs (maxSteps := 1000000) (disch := omega) only [↓xsP, ↓vc_seq, xsQ, xsT, xsR, xsD, ↓reduceIte, reduceCtorEq, eq_self, ne_eq, imp_self, forall_const, Nat.reduceEqDiff, Nat.reduceAdd, Nat.reduceSub, Nat.reduceMul, Nat.reduceLT, Nat.reduceLeDiff, Nat.reduceBEq, Nat.reduceDiv, Nat.reduceMod, Int.reduceToNat, Int.reduceNeg, Int.reduceAdd, Int.reduceSub, Int.reduceMul, Int.reduceEq, Int.reduceNe, Int.reduceLT, Int.reduceLE, Int.reduceGT, Int.reduceGE, f2, f7, f43, f44, f45, h94]
        refine newI_intro fun idq hidq => ?_
        have A5 := A4.new hidq (.cells 5 [[.int .u8 58]] 0)
        have h95 : (N3.set idq (.cells 5 [[.int .u8 58]] 0)) id9 = _ := (Mem.set_ne _ _ _ _ (by have := lt_of_bnd hidq h94; omega)).trans h94
        simp -implicitDefEqProofs (maxSteps := 1000000) (disch := omega) only [↓xsP, ↓vc_seq, xsQ, xsT, xsR, xsD, ↓reduceIte, reduceCtorEq, eq_self, ne_eq, imp_self, forall_const, Nat.reduceEqDiff, Nat.reduceAdd, Nat.reduceSub, Nat.reduceMul, Nat.reduceLT, Nat.reduceLeDiff, Nat.reduceBEq, Nat.reduceDiv, Nat.reduceMod, Int.reduceToNat, Int.reduceNeg, Int.reduceAdd, Int.reduceSub, Int.reduceMul, Int.reduceEq, Int.reduceNe, Int.reduceLT, Int.reduceLE, Int.reduceGT, Int.reduceGE, f2, f7, f43, f44, f45, h94]
        refine app_at A5 (bs := [58]) (fun te _ => src_lit 58) (by simp) (by simp only [List.length_append, List.length_cons, List.length_nil]; omega) fun id6 N6 A6 K6 => ?_
        have h96 := K6 _ _ h95 (ne_ty h95 A5.own (by decide))
        simp -implicitDefEqProofs (maxSteps := 1000000) (disch := omega) only [↓xsP, ↓vc_seq, xsQ, xsT, xsR, xsD, ↓reduceIte, reduceCtorEq, eq_self, ne_eq, imp_self, forall_const, Nat.reduceEqDiff, Nat.reduceAdd, Nat.reduceSub, Nat.reduceMul, Nat.reduceLT, Nat.reduceLeDiff, Nat.reduceBEq, Nat.reduceDiv, Nat.reduceMod, Int.reduceToNat, Int.reduceNeg, Int.reduceAdd, Int.reduceSub, Int.reduceMul, Int.reduceEq, Int.reduceNe, Int.reduceLT, Int.reduceLE, Int.reduceGT, Int.reduceGE, f2, f7, f43, f44, f45, h96]
        refine callI_of ((appI_at A6 p.val hpo.2 (by simp only [List.length_append, List.length_cons, List.length_nil]; omega)).mono ?_)
        rintro _ N7 ⟨id8, rfl, A8, K8⟩
        simp -implicitDefEqProofs (maxSteps := 1000000) (disch := omega) only [↓xsP, ↓vc_seq, xsQ, xsT, xsR, xsD, ↓reduceIte, reduceCtorEq, eq_self, ne_eq, imp_self, forall_const, Nat.reduceEqDiff, Nat.reduceAdd, Nat.reduceSub, Nat.reduceMul, Nat.reduceLT, Nat.reduceLeDiff, Nat.reduceBEq, Nat.reduceDiv, Nat.reduceMod, Int.reduceToNat, Int.reduceNeg, Int.reduceAdd, Int.reduceSub, Int.reduceMul, Int.reduceEq, Int.reduceNe, Int.reduceLT, Int.reduceLE, Int.reduceGT, Int.reduceGE, f2, f7, f43, f44, f45]
        refine ⟨ps.length - (j + 1), _, by omega, A8.canon, j + 1, id8, _, by omega, rfl, A8.bnd, ?_, rfl, by simp, rfl⟩
        rw [hlc, hlb, hsn, if_pos htne]
        simp [prT]
    · have hjl : j = ps.length := by omega
      subst hjl
      rw [List.take_of_length_le (Nat.le_refl _)] at hlb hlbl
      have hk1 := Lib.itoa_length_le st hst1.1 hst1.2
      have hN3 : N id3 = some (.cells 24 [[.int .i64 root, .sl (ns.map Nd.row)]] 0) := A0.le _ _ (by rw [eN0, Mem.set_ne _ _ _ _ (by omega), Mem.set_eq])
      simp -implicitDefEqProofs (maxSteps := 1000000) (disch := omega) only [↓xsP, ↓vc_seq, xsQ, xsT, xsR, xsD, ↓reduceIte, reduceCtorEq, eq_self, ne_eq, imp_self, forall_const, Nat.reduceEqDiff, Nat.reduceAdd, Nat.reduceSub, Nat.reduceMul, Nat.reduceLT, Nat.reduceLeDiff, Nat.reduceBEq, Nat.reduceDiv, Nat.reduceMod, Int.reduceToNat, Int.reduceNeg, Int.reduceAdd, Int.reduceSub, Int.reduceMul, Int.reduceEq, Int.reduceNe, Int.reduceLT, Int.reduceLE, Int.reduceGT, Int.reduceGE, f2, f7, f43, f44, f45]
      have hNi := A0.own
      refine xwrite (fun n0 => [ (2, idb), (5, n0 + 2), (7, n0 + 5)]) [2, 5, 7] [1, 2, 5, 6, 7] [[], [], [], [2, 1], [2, 1], [], [2, 5, 1], [], []] (by kernel_rfl) (by kernel_rfl) (by kernel_rfl) (by kernel_rfl) (fun n0 hn0 => ⟨rfl, ?_, ?_⟩)
      · exact TOk_cons (.inl (lt_of_bnd hn0 hNi)) (TOk_cons (.inr ⟨2, by decide, ⟨by decide, by decide⟩, rfl⟩) (TOk_cons (.inr ⟨5, by decide, ⟨by decide, by decide⟩, rfl⟩) (TOk_nil _ _)))
      have z3 := lt_of_bnd hn0 hN3
      have z7 := lt_of_bnd hn0 hN7
      have zb := lt_of_bnd hn0 hNi
      have n7b := ne_ty hN7 hNi (by decide)
      simp -implicitDefEqProofs (maxSteps := 1000000) (disch := omega) only [↓xsP, ↓vc_seq, xsQ, xsT, xsR, xsD, ↓reduceIte, reduceCtorEq, eq_self, ne_eq, imp_self, forall_const, Nat.reduceEqDiff, Nat.reduceAdd, Nat.reduceSub, Nat.reduceMul, Nat.reduceLT, Nat.reduceLeDiff, Nat.reduceBEq, Nat.reduceDiv, Nat.reduceMod, Int.reduceToNat, Int.reduceNeg, Int.reduceAdd, Int.reduceSub, Int.reduceMul, Int.reduceEq, Int.reduceNe, Int.reduceLT, Int.reduceLE, Int.reduceGT, Int.reduceGE, f2, f7, hN7]
      refine ⟨.inl (by decide), ?_⟩
      refine wapp_by (l := lb) (bs := [124]) (by rw [Mem.set_ne _ _ _ _ (by omega)]; exact hNi) (fun te => src_lit 124) (by simp only [List.length_append, List.length_cons, List.length_nil]; omega) ?_
      obtain ⟨l2, hl2⟩ : ∃ l2, lb ++ [124] = l2 := ⟨_, rfl⟩
      have hl2l : l2.length = lb.length + 1 := by rw [← hl2]; simp
      rw [hl2]
      simp -implicitDefEqProofs (maxSteps := 1000000) (disch := omega) only [↓xsP, ↓vc_seq, xsQ, xsT, xsR, xsD, ↓reduceIte, reduceCtorEq, eq_self, ne_eq, imp_self, forall_const, Nat.reduceEqDiff, Nat.reduceAdd, Nat.reduceSub, Nat.reduceMul, Nat.reduceLT, Nat.reduceLeDiff, Nat.reduceBEq, Nat.reduceDiv, Nat.reduceMod, Int.reduceToNat, Int.reduceNeg, Int.reduceAdd, Int.reduceSub, Int.reduceMul, Int.reduceEq, Int.reduceNe, Int.reduceLT, Int.reduceLE, Int.reduceGT, Int.reduceGE, f2, f7, hN7]
      refine ⟨.inl (by decide), ?_⟩
      refine wappI_by (l := l2) (Mem.set_eq _ _ _) st hst1 (by omega) ?_
      obtain ⟨l3, hl3⟩ : ∃ l3, l2 ++ Lib.itoa st = l3 := ⟨_, rfl⟩
      have hl3l : l3.length = l2.length + (Lib.itoa st).length := by rw [← hl3]; simp
      rw [hl3]
      simp -implicitDefEqProofs (maxSteps := 1000000) (disch := omega) only [↓xsP, ↓vc_seq, xsQ, xsT, xsR, xsD, ↓reduceIte, reduceCtorEq, eq_self, ne_eq, imp_self, forall_const, Nat.reduceEqDiff, Nat.reduceAdd, Nat.reduceSub, Nat.reduceMul, Nat.reduceLT, Nat.reduceLeDiff, Nat.reduceBEq, Nat.reduceDiv, Nat.reduceMod, Int.reduceToNat, Int.reduceNeg, Int.reduceAdd, Int.reduceSub, Int.reduceMul, Int.reduceEq, Int.reduceNe, Int.reduceLT, Int.reduceLE, Int.reduceGT, Int.reduceGE, f2, f7, hN7]
      refine ⟨.inl (by decide), .inl (by decide), ?_⟩
      refine wapp_by (l := l3) (bs := [93]) (by rw [Mem.set_ne _ _ _ _ (by omega), Mem.set_eq]) (fun te => src_lit 93) (by simp only [List.length_append, List.length_cons, List.length_nil]; omega) ?_
      simp -implicitDefEqProofs (maxSteps := 1000000) (disch := omega) only [↓xsP, ↓vc_seq, xsQ, xsT, xsR, xsD, ↓reduceIte, reduceCtorEq, eq_self, ne_eq, imp_self, forall_const, Nat.reduceEqDiff, Nat.reduceAdd, Nat.reduceSub, Nat.reduceMul, Nat.reduceLT, Nat.reduceLeDiff, Nat.reduceBEq, Nat.reduceDiv, Nat.reduceMod, Int.reduceToNat, Int.reduceNeg, Int.reduceAdd, Int.reduceSub, Int.reduceMul, Int.reduceEq, Int.reduceNe, Int.reduceLT, Int.reduceLE, Int.reduceGT, Int.reduceGE, f2, f7, hN7]
      have htx : l3 ++ [93] = l ++ (Tr.leaf ps st).txt := by
        rw [← hl3, ← hl2, hlb]
        simp [Tr.txt]
      refine ⟨.inl (by decide), ?_⟩
      refine fin_ok (fun k bk hk => ?_) ⟨n0 + 7, fun j hj => hid3 j (by omega), by rw [htx], rfl⟩
      rw [← htx] at hk
      rw [Mem.set_app] at hk ⊢
      split at hk
      · rename_i e
        rw [if_pos e]
        exact hk
      · rename_i e
        have g1 := lt_of_bnd hid3 (hb.le _ _ hk)
        have g2 : N0 k = some bk := by
          rw [eN0, Mem.set_ne _ _ _ _ (by omega), Mem.set_ne _ _ _ _ (by omega)]
          exact hk
        have g3 := A0.le _ _ g2
        have g4 := lt_of_bnd hn0 g3
        have g5 : idb ≠ k := fun e => by
          have := hbb idb (Nat.le_refl _)
          rw [e, g2] at this
          cases this
        rw [if_neg e]
        simp (disch := omega) only [Mem.set_ne, Mem.del_ne, g3]
  | @fork i k l r L R pl pr hi h hL hR ihl ihr =>
    intro hint l0 x M M0 hb hl
    refine xcalls_intro (rs := [.tmp 6]) Go.Proofs.Tryd.func31 rfl (by kernel_rfl) rfl rfl (by kernel_rfl) (by simp) ?_
    simp -implicitDefEqProofs (maxSteps := 1000000) (disch := omega) only [↓xsP, ↓vc_seq, xsQ, xsT, xsR, xsD, ↓reduceIte, reduceCtorEq, eq_self, ne_eq, imp_self, forall_const, Nat.reduceEqDiff, Nat.reduceAdd, Nat.reduceSub, Nat.reduceMul, Nat.reduceLT, Nat.reduceLeDiff, Nat.reduceBEq, Nat.reduceDiv, Nat.reduceMod, Int.reduceToNat, Int.reduceNeg, Int.reduceAdd, Int.reduceSub, Int.reduceMul, Int.reduceEq, Int.reduceNe, Int.reduceLT, Int.reduceLE, Int.reduceGT, Int.reduceGE, trA]
    refine newI_intro fun id3 hid3 => ?_
    have hb3 := hb.set hid3 (.cells 24 [[.int .i64 root, .sl (ns.map Nd.row)]] 0)
    simp -implicitDefEqProofs (maxSteps := 1000000) (disch := omega) only [↓xsP, ↓vc_seq, xsQ, xsT, xsR, xsD, ↓reduceIte, reduceCtorEq, eq_self, ne_eq, imp_self, forall_const, Nat.reduceEqDiff, Nat.reduceAdd, Nat.reduceSub, Nat.reduceMul, Nat.reduceLT, Nat.reduceLeDiff, Nat.reduceBEq, Nat.reduceDiv, Nat.reduceMod, Int.reduceToNat, Int.reduceNeg, Int.reduceAdd, Int.reduceSub, Int.reduceMul, Int.reduceEq, Int.reduceNe, Int.reduceLT, Int.reduceLE, Int.reduceGT, Int.reduceGE, h]
    refine newI_intro fun id7 hid7 => ?_
    have hb7 := hb3.set hid7 (.cells 46 [(forkN k l r).row] 0)
    obtain ⟨k37, hid7'⟩ := bnd_new hid7
    rw [row_nd] at hb7
    have hro : (forkN k l r).route = true := rfl
    rw [hro] at hb7
    simp -implicitDefEqProofs (maxSteps := 1000000) (disch := omega) only [↓xsP, ↓vc_seq, xsQ, xsT, xsR, xsD, ↓reduceIte, reduceCtorEq, eq_self, ne_eq, imp_self, forall_const, Nat.reduceEqDiff, Nat.reduceAdd, Nat.reduceSub, Nat.reduceMul, Nat.reduceLT, Nat.reduceLeDiff, Nat.reduceBEq, Nat.reduceDiv, Nat.reduceMod, Int.reduceToNat, Int.reduceNeg, Int.reduceAdd, Int.reduceSub, Int.reduceMul, Int.reduceEq, Int.reduceNe, Int.reduceLT, Int.reduceLE, Int.reduceGT, Int.reduceGE, h, hro]
    simp only [Tr.ints] at hint
    obtain ⟨hik, hiL, hiR⟩ := hint
    have hle : (forkN k l r).left = l := rfl
    have hri : (forkN k l r).right = r := rfl
    have hke : (forkN k l r).key = k := rfl
    have hki := Lib.itoa_length_le k hik.1 hik.2
    have htl : (Tr.fork k L R).txt.length = L.txt.length + (Lib.itoa k).length + R.txt.length + 4 := by
      simp [Tr.txt]
      omega
    rw [htl] at hl
    generalize hN : (M.set id3 (.cells 24 [[.int .i64 root, .sl (ns.map Nd.row)]] 0)).set id7 _ = N at hb7 ⊢
    generalize hN0 : (M0.set id3 (.cells 24 [[.int .i64 root, .sl (ns.map Nd.row)]] 0)).set id7 _ = N0 at hb7
    have hN03 : N0 id3 = some (.cells 24 [[.int .i64 root, .sl (ns.map Nd.row)]] 0) := by rw [← hN0, Mem.set_ne _ _ _ _ (by omega), Mem.set_eq]
    have hN07 := Mem.set_eq (M0.set id3 (.cells 24 [[.int .i64 root, .sl (ns.map Nd.row)]] 0)) id7 (.cells 46 [[.bool true, .int .i64 (forkN k l r).key, .int .i64 (forkN k l r).left, .int .i64 (forkN k l r).right, .sl ((forkN k l r).pairs.map Pr.row), .int .i64 (forkN k l r).stat]] 0)
    rw [hN0] at hN07
    have hN3 := hb7.le _ _ hN03
    have hN7 := hb7.le _ _ hN07
    have hMN : ∀ k bk, M0 k = some bk → k < id3 ∧ N0 k = some bk := fun k bk hk => by
      have := lt_of_bnd hid3 (hb.le _ _ hk)
      refine ⟨this, ?_⟩
      rw [← hN0, Mem.set_ne _ _ _ _ (by omega), Mem.set_ne _ _ _ _ (by omega)]
      exact hk
    clear hN hN0 hb3 hid7
    cases hb7 with
    | nil =>
      refine xwrite (fun n0 => [ (6, n0 + 5), (8, n0 + 6)]) [6, 8] [4, 5, 6, 7, 8] [[], [], [], [], [], [], [], [6, 4, 5], [], []] (by kernel_rfl) (by kernel_rfl) (by kernel_rfl) (by kernel_rfl) (fun n0 hn0 => ⟨rfl, ?_, ?_⟩)
      · exact TOk_cons (.inr ⟨5, by decide, ⟨by decide, by decide⟩, rfl⟩) (TOk_cons (.inr ⟨6, by decide, ⟨by decide, by decide⟩, rfl⟩) (TOk_nil _ _))
      have z3 := lt_of_bnd hn0 hN3
      have z7 := lt_of_bnd hn0 hN7
      simp -implicitDefEqProofs (maxSteps := 1000000) (disch := omega) only [↓xsP, ↓vc_seq, xsQ, xsT, xsR, xsD, ↓reduceIte, reduceCtorEq, eq_self, ne_eq, imp_self, forall_const, Nat.reduceEqDiff, Nat.reduceAdd, Nat.reduceSub, Nat.reduceMul, Nat.reduceLT, Nat.reduceLeDiff, Nat.reduceBEq, Nat.reduceDiv, Nat.reduceMod, Int.reduceToNat, Int.reduceNeg, Int.reduceAdd, Int.reduceSub, Int.reduceMul, Int.reduceEq, Int.reduceNe, Int.reduceLT, Int.reduceLE, Int.reduceGT, Int.reduceGE, hN3, hN7, hle, hri]
      refine ⟨.inl (by decide), ?_⟩
      simp only [List.length_nil] at hl
      refine wapp_by0 (bs := [40]) (by simp) (fun te => src_lit 40) (by simp) ?_
      obtain ⟨l1, hl1⟩ : ∃ l1, ([40] : List UInt8) = l1 := ⟨_, rfl⟩
      have hl1l : l1.length = 1 := by rw [← hl1]; rfl
      rw [hl1]
      simp -implicitDefEqProofs (maxSteps := 1000000) (disch := omega) only [↓xsP, ↓vc_seq, xsQ, xsT, xsR, xsD, ↓reduceIte, reduceCtorEq, eq_self, ne_eq, imp_self, forall_const, Nat.reduceEqDiff, Nat.reduceAdd, Nat.reduceSub, Nat.reduceMul, Nat.reduceLT, Nat.reduceLeDiff, Nat.reduceBEq, Nat.reduceDiv, Nat.reduceMod, Int.reduceToNat, Int.reduceNeg, Int.reduceAdd, Int.reduceSub, Int.reduceMul, Int.reduceEq, Int.reduceNe, Int.reduceLT, Int.reduceLE, Int.reduceGT, Int.reduceGE, hN3, hN7, hle, hri]
      refine ⟨.inl (by decide), ?_⟩
      refine wcall_new (l1 ++ L.txt).length (.cells 5 (byR (l1 ++ L.txt)) 0) [n0 + 5] (fun M' hle => (ihl hiL l1 (.ms (n0 + 5) 0 l1.length) M' _ (.ms (hle _ _ (Mem.set_eq _ _ _))) (by omega)).mono ?_) ?_
      · rintro _ _ ⟨id', hid', rfl, rfl⟩
        exact ⟨id', hid', rfl, Mem.le_refl _⟩
      obtain ⟨l2, hl2⟩ : ∃ l2, l1 ++ L.txt = l2 := ⟨_, rfl⟩
      have hl2l : l2.length = l1.length + L.txt.length := by rw [← hl2]; simp
      rw [hl2]
      simp -implicitDefEqProofs (maxSteps := 1000000) (disch := omega) only [↓xsP, ↓vc_seq, xsQ, xsT, xsR, xsD, ↓reduceIte, reduceCtorEq, eq_self, ne_eq, imp_self, forall_const, Nat.reduceEqDiff, Nat.reduceAdd, Nat.reduceSub, Nat.reduceMul, Nat.reduceLT, Nat.reduceLeDiff, Nat.reduceBEq, Nat.reduceDiv, Nat.reduceMod, Int.reduceToNat, Int.reduceNeg, Int.reduceAdd, Int.reduceSub, Int.reduceMul, Int.reduceEq, Int.reduceNe, Int.reduceLT, Int.reduceLE, Int.reduceGT, Int.reduceGE, hN3, hN7, hle, hri]
      refine ⟨.inl (by decide), .inl (by decide), ?_⟩
      refine wapp_by (l := l2) (bs := [32]) (by rw [Mem.set_ne _ _ _ _ (by omega), Mem.set_eq]) (fun te => src_lit 32) (by simp only [List.length_append, List.length_cons, List.length_nil]; omega) ?_
      obtain ⟨l3, hl3⟩ : ∃ l3, l2 ++ [32] = l3 := ⟨_, rfl⟩
      have hl3l : l3.length = l2.length + 1 := by rw [← hl3]; simp
      rw [hl3]
      simp -implicitDefEqProofs (maxSteps := 1000000) (disch := omega) only [↓xsP, ↓vc_seq, xsQ, xsT, xsR, xsD, ↓reduceIte, reduceCtorEq, eq_self, ne_eq, imp_self, forall_const, Nat.reduceEqDiff, Nat.reduceAdd, Nat.reduceSub, Nat.reduceMul, Nat.reduceLT, Nat.reduceLeDiff, Nat.reduceBEq, Nat.reduceDiv, Nat.reduceMod, Int.reduceToNat, Int.reduceNeg, Int.reduceAdd, Int.reduceSub, Int.reduceMul, Int.reduceEq, Int.reduceNe, Int.reduceLT, Int.reduceLE, Int.reduceGT, Int.reduceGE, hN3, hN7, hle, hri]
      refine ⟨.inl (by decide), ?_⟩
      have hAt : At N ((((((((N.set (n0 + 4) (.cells 5 [[.int .u8 40]] 0)).set (n0 + 5) (.cells 5 (byR l1) 0)).del (n0 + 5)).set (n0 + 6) (.cells 5 (byR l2) 0)).set (n0 + 7) (.cells 5 [[.int .u8 32]] 0)).del (n0 + 6)).set (n0 + 8) (.cells 5 (byR l3) 0))) (n0 + 8) l3 := by
        refine ⟨fun j bk hj => ?_, Mem.set_eq _ _ _, fun j hj => ?_⟩
        · skip
          have := lt_of_bnd hn0 hj
          simp (disch := omega) only [Mem.set_ne, Mem.del_ne, hj]
        · skip
          exact hn0 j (by omega)
      generalize (((((((N.set (n0 + 4) (.cells 5 [[.int .u8 40]] 0)).set (n0 + 5) (.cells 5 (byR l1) 0)).del (n0 + 5)).set (n0 + 6) (.cells 5 (byR l2) 0)).set (n0 + 7) (.cells 5 [[.int .u8 32]] 0)).del (n0 + 6)).set (n0 + 8) (.cells 5 (byR l3) 0)) = Q at hAt ⊢
      obtain ⟨idb, eidb⟩ : ∃ idb, idb = n0 + 8 := ⟨_, rfl⟩
      rw [← eidb] at hAt ⊢
      have hMid : ∀ j, idb ≤ j → M j = none := fun j hj => hid3 j (by omega)
      clear hn0 z3 z7
      have hQ7 := hAt.le _ _ hN07
      have hQ3 := hAt.le _ _ hN03
      rw [hke]
      refine callI_of ((appI_at hAt k hik (by omega)).mono ?_)
      rintro _ Q1 ⟨id1, rfl, A1, -⟩
      have k13 := A1.le _ _ hN03
      simp -implicitDefEqProofs (maxSteps := 1000000) (disch := omega) only [↓xsP, ↓vc_seq, xsQ, xsT, xsR, xsD, ↓reduceIte, reduceCtorEq, eq_self, ne_eq, imp_self, forall_const, Nat.reduceEqDiff, Nat.reduceAdd, Nat.reduceSub, Nat.reduceMul, Nat.reduceLT, Nat.reduceLeDiff, Nat.reduceBEq, Nat.reduceDiv, Nat.reduceMod, Int.reduceToNat, Int.reduceNeg, Int.reduceAdd, Int.reduceSub, Int.reduceMul, Int.reduceEq, Int.reduceNe, Int.reduceLT, Int.reduceLE, Int.reduceGT, Int.reduceGE]
      refine newI_intro fun idq hidq => ?_
      have A2 := A1.new hidq (.cells 5 [[.int .u8 32]] 0)
      simp -implicitDefEqProofs (maxSteps := 1000000) (disch := omega) only [↓xsP, ↓vc_seq, xsQ, xsT, xsR, xsD, ↓reduceIte, reduceCtorEq, eq_self, ne_eq, imp_self, forall_const, Nat.reduceEqDiff, Nat.reduceAdd, Nat.reduceSub, Nat.reduceMul, Nat.reduceLT, Nat.reduceLeDiff, Nat.reduceBEq, Nat.reduceDiv, Nat.reduceMod, Int.reduceToNat, Int.reduceNeg, Int.reduceAdd, Int.reduceSub, Int.reduceMul, Int.reduceEq, Int.reduceNe, Int.reduceLT, Int.reduceLE, Int.reduceGT, Int.reduceGE]
      refine app_at A2 (bs := [32]) (fun te _ => src_lit 32) (by simp) (by simp only [List.length_append, List.length_cons, List.length_nil]; omega) fun id2 Q2 A3 K3 => ?_
      obtain ⟨l5, hl5⟩ : ∃ l5, l3 ++ Lib.itoa k ++ [32] = l5 := ⟨_, rfl⟩
      have hl5l : l5.length = l3.length + (Lib.itoa k).length + 1 := by rw [← hl5]; simp [Nat.add_assoc]
      rw [hl5] at A3 ⊢
      have hQ27 := A3.le _ _ hN07
      have hQ23 := A3.le _ _ hN03
      have hQ2i := A3.own
      have n73 := ne_ty hQ27 hQ2i (by decide)
      have n33 := ne_ty hQ23 hQ2i (by decide)
      simp -implicitDefEqProofs (maxSteps := 1000000) (disch := omega) only [↓xsP, ↓vc_seq, xsQ, xsT, xsR, xsD, ↓reduceIte, reduceCtorEq, eq_self, ne_eq, imp_self, forall_const, Nat.reduceEqDiff, Nat.reduceAdd, Nat.reduceSub, Nat.reduceMul, Nat.reduceLT, Nat.reduceLeDiff, Nat.reduceBEq, Nat.reduceDiv, Nat.reduceMod, Int.reduceToNat, Int.reduceNeg, Int.reduceAdd, Int.reduceSub, Int.reduceMul, Int.reduceEq, Int.reduceNe, Int.reduceLT, Int.reduceLE, Int.reduceGT, Int.reduceGE, hQ27, hQ23, hri]
      refine callI_of ((ihr hiR l5 (.ms id2 0 l5.length) Q2 _ (.ms hQ2i) (by omega)).mono ?_)
      rintro _ _ ⟨id4, hid4, rfl, rfl⟩
      have A4 := A3.call hid4 (l5 ++ R.txt)
      obtain ⟨l6, hl6⟩ : ∃ l6, l5 ++ R.txt = l6 := ⟨_, rfl⟩
      have hl6l : l6.length = l5.length + R.txt.length := by rw [← hl6]; simp
      rw [hl6] at A4 ⊢
      generalize (Q2.del id2).set id4 (.cells 5 (byR l6) 0) = Q4 at A4 ⊢
      simp -implicitDefEqProofs (maxSteps := 1000000) (disch := omega) only [↓xsP, ↓vc_seq, xsQ, xsT, xsR, xsD, ↓reduceIte, reduceCtorEq, eq_self, ne_eq, imp_self, forall_const, Nat.reduceEqDiff, Nat.reduceAdd, Nat.reduceSub, Nat.reduceMul, Nat.reduceLT, Nat.reduceLeDiff, Nat.reduceBEq, Nat.reduceDiv, Nat.reduceMod, Int.reduceToNat, Int.reduceNeg, Int.reduceAdd, Int.reduceSub, Int.reduceMul, Int.reduceEq, Int.reduceNe, Int.reduceLT, Int.reduceLE, Int.reduceGT, Int.reduceGE]
      refine newI_intro fun idr hidr => ?_
      have A5 := A4.new hidr (.cells 5 [[.int .u8 41]] 0)
      simp -implicitDefEqProofs (maxSteps := 1000000) (disch := omega) only [↓xsP, ↓vc_seq, xsQ, xsT, xsR, xsD, ↓reduceIte, reduceCtorEq, eq_self, ne_eq, imp_self, forall_const, Nat.reduceEqDiff, Nat.reduceAdd, Nat.reduceSub, Nat.reduceMul, Nat.reduceLT, Nat.reduceLeDiff, Nat.reduceBEq, Nat.reduceDiv, Nat.reduceMod, Int.reduceToNat, Int.reduceNeg, Int.reduceAdd, Int.reduceSub, Int.reduceMul, Int.reduceEq, Int.reduceNe, Int.reduceLT, Int.reduceLE, Int.reduceGT, Int.reduceGE]
      refine app_at A5 (bs := [41]) (fun te _ => src_lit 41) (by simp) (by simp only [List.length_append, List.length_cons, List.length_nil]; omega) fun id6 Q6 A6 K6 => ?_
      have htx : l6 ++ [41] = ([] : List UInt8) ++ (Tr.fork k L R).txt := by
        rw [← hl6, ← hl5, ← hl3, ← hl2, ← hl1]
        simp [Tr.txt]
      rw [htx] at A6 ⊢
      have hlt : id3 < id6 := lt_of_bnd A6.bnd hN03
      simp -implicitDefEqProofs (maxSteps := 1000000) (disch := omega) only [↓xsP, ↓vc_seq, xsQ, xsT, xsR, xsD, ↓reduceIte, reduceCtorEq, eq_self, ne_eq, imp_self, forall_const, Nat.reduceEqDiff, Nat.reduceAdd, Nat.reduceSub, Nat.reduceMul, Nat.reduceLT, Nat.reduceLeDiff, Nat.reduceBEq, Nat.reduceDiv, Nat.reduceMod, Int.reduceToNat, Int.reduceNeg, Int.reduceAdd, Int.reduceSub, Int.reduceMul, Int.reduceEq, Int.reduceNe, Int.reduceLT, Int.reduceLE, Int.reduceGT, Int.reduceGE]
      refine fin_ok (fun j bk hj => A6.canon _ _ ?_) ⟨id6, fun j hj => hid3 j (by omega), rfl, rfl⟩
      rw [Mem.set_app] at hj ⊢
      split at hj
      · rename_i e
        rw [if_pos e]
        exact hj
      · rename_i e
        rw [if_neg e]
        exact (hMN _ _ hj).2
    | @ms idx l0 hx =>
      have x3 : idx ≠ id3 := fun e => by rw [e, hN3] at hx; cases hx
      have x7 : idx ≠ id7 := fun e => by rw [e, hN7] at hx; cases hx
      refine xwrite (fun n0 => [ (5, idx), (6, n0 + 5), (8, n0 + 6)]) [5, 6, 8] [4, 5, 6, 7, 8] [[5], [5], [5], [], [], [], [], [5, 6, 4], [], []] (by kernel_rfl) (by kernel_rfl) (by kernel_rfl) (by kernel_rfl) (fun n0 hn0 => ⟨rfl, ?_, ?_⟩)
      · exact TOk_cons (.inl (lt_of_bnd hn0 hx)) (TOk_cons (.inr ⟨5, by decide, ⟨by decide, by decide⟩, rfl⟩) (TOk_cons (.inr ⟨6, by decide, ⟨by decide, by decide⟩, rfl⟩) (TOk_nil _ _)))
      have zx := lt_of_bnd hn0 hx
      have z3 := lt_of_bnd hn0 hN3
      have z7 := lt_of_bnd hn0 hN7
      simp -implicitDefEqProofs (maxSteps := 1000000) (disch := omega) only [↓xsP, ↓vc_seq, xsQ, xsT, xsR, xsD, ↓reduceIte, reduceCtorEq, eq_self, ne_eq, imp_self, forall_const, Nat.reduceEqDiff, Nat.reduceAdd, Nat.reduceSub, Nat.reduceMul, Nat.reduceLT, Nat.reduceLeDiff, Nat.reduceBEq, Nat.reduceDiv, Nat.reduceMod, Int.reduceToNat, Int.reduceNeg, Int.reduceAdd, Int.reduceSub, Int.reduceMul, Int.reduceEq, Int.reduceNe, Int.reduceLT, Int.reduceLE, Int.reduceGT, Int.reduceGE, hN3, hN7, hle, hri]
      refine ⟨.inl (by decide), ?_⟩
      refine wapp_by (l := l0) (bs := [40]) (by rw [Mem.set_ne _ _ _ _ (by omega)]; exact hx) (fun te => src_lit 40) (by simp only [List.length_append, List.length_cons, List.length_nil]; omega) ?_
      obtain ⟨l1, hl1⟩ : ∃ l1, l0 ++ [40] = l1 := ⟨_, rfl⟩
      have hl1l : l1.length = l0.length + 1 := by rw [← hl1]; simp
      rw [hl1]
      simp -implicitDefEqProofs (maxSteps := 1000000) (disch := omega) only [↓xsP, ↓vc_seq, xsQ, xsT, xsR, xsD, ↓reduceIte, reduceCtorEq, eq_self, ne_eq, imp_self, forall_const, Nat.reduceEqDiff, Nat.reduceAdd, Nat.reduceSub, Nat.reduceMul, Nat.reduceLT, Nat.reduceLeDiff, Nat.reduceBEq, Nat.reduceDiv, Nat.reduceMod, Int.reduceToNat, Int.reduceNeg, Int.reduceAdd, Int.reduceSub, Int.reduceMul, Int.reduceEq, Int.reduceNe, Int.reduceLT, Int.reduceLE, Int.reduceGT, Int.reduceGE, hN3, hN7, hle, hri]
      refine ⟨.inl (by decide), ?_⟩
      refine wcall_new (l1 ++ L.txt).length (.cells 5 (byR (l1 ++ L.txt)) 0) [n0 + 5] (fun M' hle => (ihl hiL l1 (.ms (n0 + 5) 0 l1.length) M' _ (.ms (hle _ _ (Mem.set_eq _ _ _))) (by omega)).mono ?_) ?_
      · rintro _ _ ⟨id', hid', rfl, rfl⟩
        exact ⟨id', hid', rfl, Mem.le_refl _⟩
      obtain ⟨l2, hl2⟩ : ∃ l2, l1 ++ L.txt = l2 := ⟨_, rfl⟩
      have hl2l : l2.length = l1.length + L.txt.length := by rw [← hl2]; simp
      rw [hl2]
      simp -implicitDefEqProofs (maxSteps := 1000000) (disch := omega) only [↓xsP, ↓vc_seq, xsQ, xsT, xsR, xsD, ↓reduceIte, reduceCtorEq, eq_self, ne_eq, imp_self, forall_const, Nat.reduceEqDiff, Nat.reduceAdd, Nat.reduceSub, Nat.reduceMul, Nat.reduceLT, Nat.reduceLeDiff, Nat.reduceBEq, Nat.reduceDiv, Nat.reduceMod, Int.reduceToNat, Int.reduceNeg, Int.reduceAdd, Int.reduceSub, Int.reduceMul, Int.reduceEq, Int.reduceNe, Int.reduceLT, Int.reduceLE, Int.reduceGT, Int.reduceGE, hN3, hN7, hle, hri]
      refine ⟨.inl (by decide), .inl (by decide), ?_⟩
      refine wapp_by (l := l2) (bs := [32]) (by rw [Mem.set_ne _ _ _ _ (by omega), Mem.set_eq]) (fun te => src_lit 32) (by simp only [List.length_append, List.length_cons, List.length_nil]; omega) ?_
      obtain ⟨l3, hl3⟩ : ∃ l3, l2 ++ [32] = l3 := ⟨_, rfl⟩
      have hl3l : l3.length = l2.length + 1 := by rw [← hl3]; simp
      rw [hl3]
      simp -implicitDefEqProofs (maxSteps := 1000000) (disch := omega) only [↓xsP, ↓vc_seq, xsQ, xsT, xsR, xsD, ↓reduceIte, reduceCtorEq, eq_self, ne_eq, imp_self, forall_const, Nat.reduceEqDiff, Nat.reduceAdd, Nat.reduceSub, Nat.reduceMul, Nat.reduceLT, Nat.reduceLeDiff, Nat.reduceBEq, Nat.reduceDiv, Nat.reduceMod, Int.reduceToNat, Int.reduceNeg, Int.reduceAdd, Int.reduceSub, Int.reduceMul, Int.reduceEq, Int.reduceNe, Int.reduceLT, Int.reduceLE, Int.reduceGT, Int.reduceGE, hN3, hN7, hle, hri]
      refine ⟨.inl (by decide), ?_⟩
      have hAt : At (N.del idx) (((((((((N.set (n0 + 4) (.cells 5 [[.int .u8 40]] 0)).del idx).set (n0 + 5) (.cells 5 (byR l1) 0)).del (n0 + 5)).set (n0 + 6) (.cells 5 (byR l2) 0)).set (n0 + 7) (.cells 5 [[.int .u8 32]] 0)).del (n0 + 6)).set (n0 + 8) (.cells 5 (byR l3) 0))) (n0 + 8) l3 := by
        refine ⟨fun j bk hj => ?_, Mem.set_eq _ _ _, fun j hj => ?_⟩
        · skip
          rw [Mem.del_app] at hj
          split at hj
          · cases hj
          · rename_i e
            have := lt_of_bnd hn0 hj
            simp (disch := omega) only [Mem.set_ne, Mem.del_ne, hj]
        · skip
          have := hn0 j (by omega)
          rw [Mem.del_app, this]
          split <;> rfl
      generalize ((((((((N.set (n0 + 4) (.cells 5 [[.int .u8 40]] 0)).del idx).set (n0 + 5) (.cells 5 (byR l1) 0)).del (n0 + 5)).set (n0 + 6) (.cells 5 (byR l2) 0)).set (n0 + 7) (.cells 5 [[.int .u8 32]] 0)).del (n0 + 6)).set (n0 + 8) (.cells 5 (byR l3) 0)) = Q at hAt ⊢
      obtain ⟨idb, eidb⟩ : ∃ idb, idb = n0 + 8 := ⟨_, rfl⟩
      rw [← eidb] at hAt ⊢
      have hMid : ∀ j, idb ≤ j → M j = none := fun j hj => hid3 j (by omega)
      clear hn0 z3 z7 zx hx
      have hQ7 := hAt.le _ _ hN07
      have hQ3 := hAt.le _ _ hN03
      rw [hke]
      refine callI_of ((appI_at hAt k hik (by omega)).mono ?_)
      rintro _ Q1 ⟨id1, rfl, A1, -⟩
      have k13 := A1.le _ _ hN03
      simp -implicitDefEqProofs (maxSteps := 1000000) (disch := omega) only [↓xsP, ↓vc_seq, xsQ, xsT, xsR, xsD, ↓reduceIte, reduceCtorEq, eq_self, ne_eq, imp_self, forall_const, Nat.reduceEqDiff, Nat.reduceAdd, Nat.reduceSub, Nat.reduceMul, Nat.reduceLT, Nat.reduceLeDiff, Nat.reduceBEq, Nat.reduceDiv, Nat.reduceMod, Int.reduceToNat, Int.reduceNeg, Int.reduceAdd, Int.reduceSub, Int.reduceMul, Int.reduceEq, Int.reduceNe, Int.reduceLT, Int.reduceLE, Int.reduceGT, Int.reduceGE]
      refine newI_intro fun idq hidq => ?_
      have A2 := A1.new hidq (.cells 5 [[.int .u8 32]] 0)
      simp -implicitDefEqProofs (maxSteps := 1000000) (disch := omega) only [↓xsP, ↓vc_seq, xsQ, xsT, xsR, xsD, ↓reduceIte, reduceCtorEq, eq_self, ne_eq, imp_self, forall_const, Nat.reduceEqDiff, Nat.reduceAdd, Nat.reduceSub, Nat.reduceMul, Nat.reduceLT, Nat.reduceLeDiff, Nat.reduceBEq, Nat.reduceDiv, Nat.reduceMod, Int.reduceToNat, Int.reduceNeg, Int.reduceAdd, Int.reduceSub, Int.reduceMul, Int.reduceEq, Int.reduceNe, Int.reduceLT, Int.reduceLE, Int.reduceGT, Int.reduceGE]
      refine app_at A2 (bs := [32]) (fun te _ => src_lit 32) (by simp) (by simp only [List.length_append, List.length_cons, List.length_nil]; omega) fun id2 Q2 A3 K3 => ?_
      obtain ⟨l5, hl5⟩ : ∃ l5, l3 ++ Lib.itoa k ++ [32] = l5 := ⟨_, rfl⟩
      have hl5l : l5.length = l3.length + (Lib.itoa k).length + 1 := by rw [← hl5]; simp [Nat.add_assoc]
      rw [hl5] at A3 ⊢
      have hQ27 := A3.le _ _ hN07
      have hQ23 := A3.le _ _ hN03
      have hQ2i := A3.own
      have n73 := ne_ty hQ27 hQ2i (by decide)
      have n33 := ne_ty hQ23 hQ2i (by decide)
      simp -implicitDefEqProofs (maxSteps := 1000000) (disch := omega) only [↓xsP, ↓vc_seq, xsQ, xsT, xsR, xsD, ↓reduceIte, reduceCtorEq, eq_self, ne_eq, imp_self, forall_const, Nat.reduceEqDiff, Nat.reduceAdd, Nat.reduceSub, Nat.reduceMul, Nat.reduceLT, Nat.reduceLeDiff, Nat.reduceBEq, Nat.reduceDiv, Nat.reduceMod, Int.reduceToNat, Int.reduceNeg, Int.reduceAdd, Int.reduceSub, Int.reduceMul, Int.reduceEq, Int.reduceNe, Int.reduceLT, Int.reduceLE, Int.reduceGT, Int.reduceGE, hQ27, hQ23, hri]
      refine callI_of ((ihr hiR l5 (.ms id2 0 l5.length) Q2 _ (.ms hQ2i) (by omega)).mono ?_)
      rintro _ _ ⟨id4, hid4, rfl, rfl⟩
      have A4 := A3.call hid4 (l5 ++ R.txt)
      obtain ⟨l6, hl6⟩ : ∃ l6, l5 ++ R.txt = l6 := ⟨_, rfl⟩
      have hl6l : l6.length = l5.length + R.txt.length := by rw [← hl6]; simp
      rw [hl6] at A4 ⊢
      generalize (Q2.del id2).set id4 (.cells 5 (byR l6) 0) = Q4 at A4 ⊢
      simp -implicitDefEqProofs (maxSteps := 1000000) (disch := omega) only [↓xsP, ↓vc_seq, xsQ, xsT, xsR, xsD, ↓reduceIte, reduceCtorEq, eq_self, ne_eq, imp_self, forall_const, Nat.reduceEqDiff, Nat.reduceAdd, Nat.reduceSub, Nat.reduceMul, Nat.reduceLT, Nat.reduceLeDiff, Nat.reduceBEq, Nat.reduceDiv, Nat.reduceMod, Int.reduceToNat, Int.reduceNeg, Int.reduceAdd, Int.reduceSub, Int.reduceMul, Int.reduceEq, Int.reduceNe, Int.reduceLT, Int.reduceLE, Int.reduceGT, Int.reduceGE]
      refine newI_intro fun idr hidr => ?_
      have A5 := A4.new hidr (.cells 5 [[.int .u8 41]] 0)
      simp -implicitDefEqProofs (maxSteps := 1000000) (disch := omega) only [↓xsP, ↓vc_seq, xsQ, xsT, xsR, xsD, ↓reduceIte, reduceCtorEq, eq_self, ne_eq, imp_self, forall_const, Nat.reduceEqDiff, Nat.reduceAdd, Nat.reduceSub, Nat.reduceMul, Nat.reduceLT, Nat.reduceLeDiff, Nat.reduceBEq, Nat.reduceDiv, Nat.reduceMod, Int.reduceToNat, Int.reduceNeg, Int.reduceAdd, Int.reduceSub, Int.reduceMul, Int.reduceEq, Int.reduceNe, Int.reduceLT, Int.reduceLE, Int.reduceGT, Int.reduceGE]
      refine app_at A5 (bs := [41]) (fun te _ => src_lit 41) (by simp) (by simp only [List.length_append, List.length_cons, List.length_nil]; omega) fun id6 Q6 A6 K6 => ?_
      have htx : l6 ++ [41] = l0 ++ (Tr.fork k L R).txt := by
        rw [← hl6, ← hl5, ← hl3, ← hl2, ← hl1]
        simp [Tr.txt]
      rw [htx] at A6 ⊢
      have hlt : id3 < id6 := lt_of_bnd A6.bnd hN03
      simp -implicitDefEqProofs (maxSteps := 1000000) (disch := omega) only [↓xsP, ↓vc_seq, xsQ, xsT, xsR, xsD, ↓reduceIte, reduceCtorEq, eq_self, ne_eq, imp_self, forall_const, Nat.reduceEqDiff, Nat.reduceAdd, Nat.reduceSub, Nat.reduceMul, Nat.reduceLT, Nat.reduceLeDiff, Nat.reduceBEq, Nat.reduceDiv, Nat.reduceMod, Int.reduceToNat, Int.reduceNeg, Int.reduceAdd, Int.reduceSub, Int.reduceMul, Int.reduceEq, Int.reduceNe, Int.reduceLT, Int.reduceLE, Int.reduceGT, Int.reduceGE]
      refine fin_ok (fun j bk hj => A6.canon _ _ ?_) ⟨id6, fun j hj => hid3 j (by omega), rfl, rfl⟩
      rw [Mem.set_app] at hj ⊢
      split at hj
      · rename_i e
        rw [if_pos e]
        exact hj
      · rename_i e
        rw [if_neg e]
        exact (hMN _ _ hj).2
end Go.X
set_option linter.unusedVariables false
set_option linter.unusedSimpArgs false
set_option maxHeartbeats 20000000
set_option maxRecDepth 100000
namespace Go.X
open Go.Proofs.Tryd (prog)

theorem vtext_spec (root : Int) (ns : List Nd) (hl : ns.length ≤ 140737488355328) (hp : Pok ns) {T : Tr} (hT : Good root ns T) (hi : T.ints) (ht : T.txt.length ≤ 1000000) (M : Mem) :
    XCalls Go.Proofs.Tryd.prog 15 [trA root ns] M fun r M' => r = .l (txt T.txt) ∧ M' = M := by
  obtain ⟨pl, hH, -⟩ := hT.hang
  refine xcalls_intro (rs := [.tmp 2]) Go.Proofs.Tryd.func15 rfl (by kernel_rfl) rfl rfl (by kernel_rfl) (by simp) ?_
  simp -implicitDefEqProofs (maxSteps := 1000000) (disch := omega) only [↓xsP, ↓vc_seq, xsQ, xsT, xsR, xsD, ↓reduceIte, reduceCtorEq, eq_self, ne_eq, imp_self, forall_const, Nat.reduceEqDiff, Nat.reduceAdd, Nat.reduceSub, Nat.reduceMul, Nat.reduceLT, Nat.reduceLeDiff, Nat.reduceBEq, Nat.reduceDiv, Nat.reduceMod, Int.reduceToNat, Int.reduceNeg, Int.reduceAdd, Int.reduceSub, Int.reduceMul, Int.reduceEq, Int.reduceNe, Int.reduceLT, Int.reduceLE, Int.reduceGT, Int.reduceGE, trA]
  refine newI_intro fun id1 hid1 => ?_
  simp -implicitDefEqProofs (maxSteps := 1000000) (disch := omega) only [↓xsP, ↓vc_seq, xsQ, xsT, xsR, xsD, ↓reduceIte, reduceCtorEq, eq_self, ne_eq, imp_self, forall_const, Nat.reduceEqDiff, Nat.reduceAdd, Nat.reduceSub, Nat.reduceMul, Nat.reduceLT, Nat.reduceLeDiff, Nat.reduceBEq, Nat.reduceDiv, Nat.reduceMod, Int.reduceToNat, Int.reduceNeg, Int.reduceAdd, Int.reduceSub, Int.reduceMul, Int.reduceEq, Int.reduceNe, Int.reduceLT, Int.reduceLE, Int.reduceGT, Int.reduceGE]
  refine call_of (tmay_spec root ns hl hp _) ?_
  rw [hT.may]
  simp -implicitDefEqProofs (maxSteps := 1000000) (disch := omega) only [↓xsP, ↓vc_seq, xsQ, xsT, xsR, xsD, ↓reduceIte, reduceCtorEq, eq_self, ne_eq, imp_self, forall_const, Nat.reduceEqDiff, Nat.reduceAdd, Nat.reduceSub, Nat.reduceMul, Nat.reduceLT, Nat.reduceLeDiff, Nat.reduceBEq, Nat.reduceDiv, Nat.reduceMod, Int.reduceToNat, Int.reduceNeg, Int.reduceAdd, Int.reduceSub, Int.reduceMul, Int.reduceEq, Int.reduceNe, Int.reduceLT, Int.reduceLE, Int.reduceGT, Int.reduceGE]
  refine callI_of ((vlay_spec root ns hH hi [] .nils _ _ .nil (by simp only [List.length_nil]; omega)).mono ?_)
  rintro _ _ ⟨id2, hid2, rfl, rfl⟩
  rw [List.nil_append]
  obtain ⟨k12, hid2'⟩ := bnd_new hid2
  simp -implicitDefEqProofs (maxSteps := 1000000) (disch := omega) only [↓xsP, ↓vc_seq, xsQ, xsT, xsR, xsD, ↓reduceIte, reduceCtorEq, eq_self, ne_eq, imp_self, forall_const, Nat.reduceEqDiff, Nat.reduceAdd, Nat.reduceSub, Nat.reduceMul, Nat.reduceLT, Nat.reduceLeDiff, Nat.reduceBEq, Nat.reduceDiv, Nat.reduceMod, Int.reduceToNat, Int.reduceNeg, Int.reduceAdd, Int.reduceSub, Int.reduceMul, Int.reduceEq, Int.reduceNe, Int.reduceLT, Int.reduceLE, Int.reduceGT, Int.reduceGE]
  rw [if_pos (by rw [byR_len]; exact Nat.le_refl _), List.take_of_length_le (by rw [byR_len]; exact Nat.le_refl _), bytes_byR]
  simp -implicitDefEqProofs (maxSteps := 1000000) (disch := omega) only [↓xsP, ↓vc_seq, xsQ, xsT, xsR, xsD, ↓reduceIte, reduceCtorEq, eq_self, ne_eq, imp_self, forall_const, Nat.reduceEqDiff, Nat.reduceAdd, Nat.reduceSub, Nat.reduceMul, Nat.reduceLT, Nat.reduceLeDiff, Nat.reduceBEq, Nat.reduceDiv, Nat.reduceMod, Int.reduceToNat, Int.reduceNeg, Int.reduceAdd, Int.reduceSub, Int.reduceMul, Int.reduceEq, Int.reduceNe, Int.reduceLT, Int.reduceLE, Int.reduceGT, Int.reduceGE]
  refine fin_ok (fun k bk hk => ?_) ⟨rfl, rfl⟩
  have := lt_of_bnd hid1 hk
  simp (disch := omega) only [Mem.set_ne, hk]
theorem vtext_bad (root : Int) (ns : List Nd) (hl : ns.length ≤ 140737488355328) (hp : Pok ns) (hT : mayT root ns = false) (M : Mem) :
    XCalls Go.Proofs.Tryd.prog 15 [trA root ns] M fun r M' => r = .l (txt []) ∧ M' = M := by
  refine xcalls_intro (rs := [.tmp 2]) Go.Proofs.Tryd.func15 rfl (by kernel_rfl) rfl rfl (by kernel_rfl) (by simp) ?_
  simp -implicitDefEqProofs (maxSteps := 1000000) (disch := omega) only [↓xsP, ↓vc_seq, xsQ, xsT, xsR, xsD, ↓reduceIte, reduceCtorEq, eq_self, ne_eq, imp_self, forall_const, Nat.reduceEqDiff, Nat.reduceAdd, Nat.reduceSub, Nat.reduceMul, Nat.reduceLT, Nat.reduceLeDiff, Nat.reduceBEq, Nat.reduceDiv, Nat.reduceMod, Int.reduceToNat, Int.reduceNeg, Int.reduceAdd, Int.reduceSub, Int.reduceMul, Int.reduceEq, Int.reduceNe, Int.reduceLT, Int.reduceLE, Int.reduceGT, Int.reduceGE, trA]
  refine newI_intro fun id1 hid1 => ?_
  simp -implicitDefEqProofs (maxSteps := 1000000) (disch := omega) only [↓xsP, ↓vc_seq, xsQ, xsT, xsR, xsD, ↓reduceIte, reduceCtorEq, eq_self, ne_eq, imp_self, forall_const, Nat.reduceEqDiff, Nat.reduceAdd, Nat.reduceSub, Nat.reduceMul, Nat.reduceLT, Nat.reduceLeDiff, Nat.reduceBEq, Nat.reduceDiv, Nat.reduceMod, Int.reduceToNat, Int.reduceNeg, Int.reduceAdd, Int.reduceSub, Int.reduceMul, Int.reduceEq, Int.reduceNe, Int.reduceLT, Int.reduceLE, Int.reduceGT, Int.reduceGE]
  refine call_of (tmay_spec root ns hl hp _) ?_
  rw [hT]
  simp -implicitDefEqProofs (maxSteps := 1000000) (disch := omega) only [↓xsP, ↓vc_seq, xsQ, xsT, xsR, xsD, ↓reduceIte, reduceCtorEq, eq_self, ne_eq, imp_self, forall_const, Nat.reduceEqDiff, Nat.reduceAdd, Nat.reduceSub, Nat.reduceMul, Nat.reduceLT, Nat.reduceLeDiff, Nat.reduceBEq, Nat.reduceDiv, Nat.reduceMod, Int.reduceToNat, Int.reduceNeg, Int.reduceAdd, Int.reduceSub, Int.reduceMul, Int.reduceEq, Int.reduceNe, Int.reduceLT, Int.reduceLE, Int.reduceGT, Int.reduceGE]
  exact fin_ok (le_new (Mem.le_refl _) hid1) ⟨rfl, rfl⟩

/-! ### numbers, plain -/
def dg (c : UInt8) : Bool := decide (48 ≤ c.toNat) && decide (c.toNat ≤ 57)
theorem dg_iff {c : UInt8} : dg c = true ↔ 48 ≤ c.toNat ∧ c.toNat ≤ 57 := by simp [dg]
def nd (l : List UInt8) : Prop := ∀ c, l.head? = some c → dg c = false
def dv (a : Nat) (l : List UInt8) : Nat := l.foldl (fun a c => a * 10 + (c.toNat - 48)) a
theorem dv_ge : ∀ (l : List UInt8) (a : Nat), a ≤ dv a l
  | [], a => Nat.le_refl _
  | c :: r, a => Nat.le_trans (by omega) (dv_ge r (a * 10 + (c.toNat - 48)))
theorem parse_dv : ∀ (l : List UInt8) (a : Nat), (∀ c ∈ l, dg c = true) → dv a l < 18446744073709551616 → Lib.parseUint10 a l = .ok (dv a l)
  | [], a, _, _ => rfl
  | c :: r, a, h, hl => by
    have hc := dg_iff.1 (h c (by simp))
    have h1 := dv_ge r (a * 10 + (c.toNat - 48))
    have h2 : dv a (c :: r) = dv (a * 10 + (c.toNat - 48)) r := rfl
    rw [h2] at hl ⊢
    rw [Lib.parseUint10, if_pos hc, if_neg (by omega), if_neg (by omega)]
    exact parse_dv r _ (fun x hx => h x (by simp [hx])) hl
theorem dec_dg (u : Nat) : ∀ c ∈ Lib.decDigits u, dg c = true := fun c hc => dg_iff.2 (dec_D u c hc)
theorem mag_dec {u : Nat} (hu : u < 18446744073709551616) : Lib.parseMag (Lib.decDigits u) = .ok u := by
  have h : dv 0 (Lib.decDigits u) = u := dval_dec u
  rw [Lib.parseMag, if_neg (decDigits_ne u), parse_dv _ _ (dec_dg u) (by rw [h]; exact hu), h]
theorem itoa_neg {v : Int} (h : v < 0) : Lib.itoa v = 45 :: Lib.decDigits v.natAbs := by
  rw [Lib.itoa]
  simp [h]
theorem itoa_nonneg {v : Int} (h : ¬ v < 0) : Lib.itoa v = Lib.decDigits v.toNat := by
  rw [Lib.itoa]
  simp [h]
theorem atoi_itoa {v : Int} (hv : IntOk' v) : Lib.atoiAll (Lib.itoa v) = .ok v := by
  obtain ⟨h0, h1⟩ := hv
  by_cases h : v < 0
  · rw [itoa_neg h, Lib.atoiAll_minus, mag_dec (by omega)]
    simp only [Lib.signed]
    rw [if_neg (by omega)]
    congr 1
    omega
  · rw [itoa_nonneg h]
    cases hd : Lib.decDigits v.toNat with
    | nil => exact absurd hd (decDigits_ne _)
    | cons c r =>
      have hc := dec_D v.toNat c (by rw [hd]; simp)
      rw [Lib.atoiAll_plain c r (by omega) (by omega), ← hd, mag_dec (by omega)]
      simp only [Lib.signless]
      rw [if_neg (by omega)]
      congr 1
      omega
/-- What a number's signs are. -/
def tok : List UInt8 → List UInt8
  | [] => []
  | c :: r => if c = 45 then 45 :: r.takeWhile dg else (c :: r).takeWhile dg
theorem takeWhile_nd {a b : List UInt8} (ha : ∀ c ∈ a, dg c = true) (hb : nd b) : (a ++ b).takeWhile dg = a := by
  induction a with
  | nil =>
    cases b with
    | nil => rfl
    | cons c r => simp [hb c rfl]
  | cons c a ih =>
    rw [List.cons_append, List.takeWhile_cons, if_pos (ha c (by simp)), ih fun x hx => ha x (by simp [hx])]
theorem tok_itoa (v : Int) {r : List UInt8} (hr : nd r) : tok (Lib.itoa v ++ r) = Lib.itoa v := by
  by_cases h : v < 0
  · rw [itoa_neg h, List.cons_append, tok, if_pos rfl, takeWhile_nd (dec_dg _) hr]
  · rw [itoa_nonneg h]
    cases hd : Lib.decDigits v.toNat with
    | nil => exact absurd hd (decDigits_ne _)
    | cons c q =>
      have hc := dec_D v.toNat c (by rw [hd]; simp)
      have h45 : c ≠ 45 := fun e => by rw [e] at hc; exact absurd hc.1 (by decide)
      rw [List.cons_append, tok, if_neg h45, ← List.cons_append, ← hd, takeWhile_nd (dec_dg _) hr]
theorem tok_pre (l : List UInt8) : l = tok l ++ l.drop (tok l).length := by
  have key : ∀ a : List UInt8, a = a.takeWhile dg ++ a.drop (a.takeWhile dg).length := fun a => by
    conv => lhs; rw [← List.takeWhile_append_dropWhile (p := dg) (l := a)]
    congr 1
    induction a with
    | nil => rfl
    | cons c a ih =>
      rw [List.takeWhile_cons, List.dropWhile_cons]
      split
      · simpa using ih
      · rfl
  cases l with
  | nil => rfl
  | cons c r =>
    rw [tok]
    split
    · rename_i e
      rw [e, List.length_cons, List.drop_succ_cons, List.cons_append, ← key r]
    · exact key _
theorem takeWhile_rest (a : List UInt8) : nd (a.drop (a.takeWhile dg).length) := by
  induction a with
  | nil => intro c h; cases h
  | cons c a ih =>
    rw [List.takeWhile_cons]
    split
    · simpa using ih
    · rename_i h
      intro d hd
      simp only [List.length_nil, List.drop_zero, List.head?_cons, Option.some.injEq] at hd
      rw [← hd]
      simpa using h
theorem tok_rest {l : List UInt8} (h : tok l ≠ []) : nd (l.drop (tok l).length) := by
  cases l with
  | nil => exact absurd rfl h
  | cons c r =>
    rw [tok]
    split
    · rw [List.length_cons, List.drop_succ_cons]
      exact takeWhile_rest r
    · exact takeWhile_rest (c :: r)
/-- A number stands at the beginning. -/
def NumAt (l : List UInt8) (v : Int) (r : List UInt8) : Prop := IntOk' v ∧ l = Lib.itoa v ++ r ∧ nd r
theorem itoa_ne (v : Int) : Lib.itoa v ≠ [] := fun e => by
  by_cases h : v < 0
  · rw [itoa_neg h] at e; cases e
  · rw [itoa_nonneg h] at e; exact decDigits_ne _ e
theorem numAt_iff {l : List UInt8} {v : Int} {r : List UInt8} : NumAt l v r ↔ Lib.atoiAll (tok l) = .ok v ∧ Lib.itoa v = tok l ∧ r = l.drop (tok l).length := by
  constructor
  · rintro ⟨h1, h2, h3⟩
    have ht : tok l = Lib.itoa v := by rw [h2, tok_itoa v h3]
    refine ⟨by rw [ht, atoi_itoa h1], ht.symm, ?_⟩
    rw [ht, h2, List.drop_append, List.drop_of_length_le (Nat.le_refl _), Nat.sub_self]
    rfl
  · rintro ⟨h1, h2, h3⟩
    refine ⟨Lib.atoiAll_bounds h1, ?_, ?_⟩
    · rw [h2, h3]; exact tok_pre l
    · rw [h3]; exact tok_rest (by rw [← h2]; exact itoa_ne v)
theorem numAt_uniq {l : List UInt8} {v v' : Int} {r r' : List UInt8} (h : NumAt l v r) (h' : NumAt l v' r') : v = v' ∧ r = r' := by
  obtain ⟨a1, a2, a3⟩ := numAt_iff.1 h
  obtain ⟨b1, b2, b3⟩ := numAt_iff.1 h'
  exact ⟨itoa_inj (a2.trans b2.symm), a3.trans b3.symm⟩

/-! ### strings as lists -/
theorem ba_size (l : List UInt8) : (⟨l.toArray⟩ : ByteArray).size = l.length := rfl
theorem ba_get (l : List UInt8) (i : Nat) : (⟨l.toArray⟩ : ByteArray).data[i]? = l[i]? := by simp
theorem ba_ext (l : List UInt8) (a b : Nat) : (⟨l.toArray⟩ : ByteArray).extract a b = ⟨((l.drop a).take (b - a)).toArray⟩ := by
  apply ByteArray.ext
  simp
theorem ba_app (a b : List UInt8) : (⟨a.toArray⟩ : ByteArray) ++ ⟨b.toArray⟩ = ⟨(a ++ b).toArray⟩ := by
  apply ByteArray.ext
  simp
theorem ba_eq (a b : List UInt8) : ((⟨a.toArray⟩ : ByteArray) = ⟨b.toArray⟩) ↔ a = b := by
  constructor
  · intro h
    have := congrArg (fun x : ByteArray => x.data.toList) h
    simpa using this
  · rintro rfl; rfl
end Go.X
set_option linter.unusedVariables false
set_option linter.unusedSimpArgs false
set_option maxHeartbeats 20000000
set_option maxRecDepth 100000
namespace Go.X
open Go.Proofs.Tryd (prog)
open Go.RowKit

theorem conc_tup2 {g : Gh} {w : World} {a b : AV} {x y : Value} (ha : ConcA g w a x) (hb : ConcA g w b y) : ConcA g w (.tup [a, b]) (.tuple #[x, y]) := by
  refine .tup [x, y] rfl fun i u v hu hv => ?_
  match i with
  | 0 =>
    simp only [List.getElem?_cons_zero, Option.some.injEq] at hu hv
    rw [← hu, ← hv]; exact ha
  | 1 =>
    simp only [List.getElem?_cons_succ, List.getElem?_cons_zero, Option.some.injEq] at hu hv
    rw [← hu, ← hv]; exact hb
  | i + 2 => simp at hu
theorem txt_list (l : List UInt8) : (⟨l.toArray⟩ : ByteArray).data.toList = l := by simp
theorem err_cells {g : Gh} {M : Mem} {w : World} (h : Rel g M w) (hP : g.P = Go.Proofs.Tryd.prog) : (∃ tp q, w.cell? ⟨1, 0, none⟩ = some (.iface tp q)) ∧ ∃ tp q, w.cell? ⟨2, 0, none⟩ = some (.iface tp q) := by
  have ht := h.tab
  rw [hP] at ht
  obtain ⟨⟨tp, q, t, fr, h1⟩, ⟨tp2, q2, t2, fr2, h2⟩⟩ := ht.2 (by rw [show Go.Proofs.Tryd.prog.globals.size = 5 by kernel_rfl]; decide)
  have key : ∀ b (cs : Array Value) t fr, g.w0.heap[b]? = some (Obj.cells cs t fr) → w.heap[b]? = some (Obj.cells cs t fr) := fun b cs t fr hb => by
    rw [h.below.block b (Array.getElem?_eq_some_iff.1 hb).1]
    exact hb
  refine ⟨⟨tp, q, ?_⟩, ⟨tp2, q2, ?_⟩⟩
  · simp [World.cell?, key _ _ _ _ h1]
  · simp [World.cell?, key _ _ _ _ h2]
theorem atoi_spec (l : List UInt8) (hl : l.length ≤ 1000000) (M : Mem) : XCalls Go.Proofs.Tryd.prog 65 [.l (txt l)] M fun r M' => M' = M ∧
    ((∃ v, Lib.atoiAll l = .ok v ∧ r = .tup [.l (.int .i64 v), .l .nili]) ∨ ((∀ v, Lib.atoiAll l ≠ .ok v) ∧ ∃ n d v, r = .tup [.l (.int .i64 n), .l (.tok (.iface d v))])) := by
  refine ⟨by kernel_rfl, fun g w vs hP hA hR => ?_⟩
  obtain ⟨hsz, hA⟩ := hA
  obtain ⟨c1, rfl⟩ : ∃ a, vs = #[a] := by
    obtain ⟨vl⟩ := vs
    match vl, hsz with
    | [a], _ => exact ⟨a, rfl⟩
  have h0' := hA 0 _ _ rfl rfl
  obtain rfl : c1 = .string ⟨l.toArray⟩ := by cases h0' with | l h => cases h; rfl
  obtain ⟨⟨tp1, q1, e1⟩, ⟨tp2, q2, e2⟩⟩ := err_cells hR hP
  have hs : (⟨l.toArray⟩ : ByteArray).size = l.length := rfl
  cases ha : Lib.atoiAll l
  · rename_i v
    refine (Go.Proofs.Tryd.strconv_Atoi_ok ⟨l.toArray⟩ (by rw [hs]; omega) v (by rw [txt_list]; exact ha) w).mono ?_
    rintro e w' ⟨rfl, hw⟩
    have hb : Below w.heap.size w w' := by
      rcases hw with rfl | ⟨t, rfl⟩
      · exact Below.refl _ _
      · exact Lib.bytesWorld_below _ _ _
    obtain ⟨ev, hR1⟩ := rel_same hR hb
    exact ⟨_, _, g, M, rfl, ⟨rfl, .inl ⟨v, rfl, rfl⟩⟩, ev, conc_tup2 (.l (.int _ _)) (.l .nili), hR1⟩
  · refine (Go.Proofs.Tryd.strconv_Atoi_syntax ⟨l.toArray⟩ (by rw [hs]; omega) (by rw [txt_list]; exact ha) _ w e1 (.inr ⟨_, _, rfl⟩)).mono ?_
    rintro e w' ⟨N, rfl, h1, h2, hb⟩
    obtain ⟨ev, hR1⟩ := rel_same hR hb
    exact ⟨_, _, g, M, rfl, ⟨rfl, .inr ⟨fun v h => (by cases h), _, _, _, rfl⟩⟩, ev, conc_tup2 (.l (.int _ _)) (.l (.tok _ rfl)), hR1⟩
  · refine (Go.Proofs.Tryd.strconv_Atoi_range ⟨l.toArray⟩ (by rw [hs]; omega) (by rw [txt_list]; exact ha) _ w e2 (.inr ⟨_, _, rfl⟩)).mono ?_
    rintro e w' ⟨N, rfl, h1, h2, hb⟩
    obtain ⟨ev, hR1⟩ := rel_same hR hb
    exact ⟨_, _, g, M, rfl, ⟨rfl, .inr ⟨fun v h => (by cases h), _, _, _, rfl⟩⟩, ev, conc_tup2 (.l (.int _ _)) (.l (.tok _ rfl)), hR1⟩
theorem cut_spec (l : List UInt8) (c : UInt8) (M : Mem) : XCalls Go.Proofs.Tryd.prog 55 [.l (txt l), .l (txt [c])] M fun r M' => M' = M ∧
    r = .tup [.l (txt (if l.head? = some c then l.tail else l)), .l (.bool (decide (l.head? = some c)))] := by
  refine ⟨by kernel_rfl, fun g w vs hP hA hR => ?_⟩
  obtain ⟨hsz, hA⟩ := hA
  obtain ⟨c1, c2, rfl⟩ : ∃ a b, vs = #[a, b] := by
    obtain ⟨vl⟩ := vs
    match vl, hsz with
    | [a, b], _ => exact ⟨a, b, rfl⟩
  have h0' := hA 0 _ _ rfl rfl
  have h1' := hA 1 _ _ rfl rfl
  obtain rfl : c1 = .string ⟨l.toArray⟩ := by cases h0' with | l h => cases h; rfl
  obtain rfl : c2 = .string ⟨[c].toArray⟩ := by cases h1' with | l h => cases h; rfl
  refine (Go.Proofs.Tryd.strings_CutPrefix ⟨l.toArray⟩ ⟨[c].toArray⟩ w).mono ?_
  rintro e w' ⟨rfl, rfl⟩
  have hpre : Lib.hasPrefix l [c] = decide (l.head? = some c) := by
    cases l with
    | nil => rfl
    | cons x r =>
      rw [Bool.eq_iff_iff]
      simp only [Lib.hasPrefix, List.isPrefixOf, Bool.and_true, beq_iff_eq, decide_eq_true_eq, List.head?_cons, Option.some.injEq]
      exact eq_comm
  have htrim : Lib.trimPrefix l [c] = if l.head? = some c then l.tail else l := by
    rw [Lib.trimPrefix, hpre]
    by_cases h : l.head? = some c
    · rw [if_pos (decide_eq_true h), if_pos h]
      simp
    · rw [if_neg (by simpa using h), if_neg h]
  refine ⟨_, _, g, M, rfl, ⟨rfl, rfl⟩, Ev.refl _ _, ?_, hR⟩
  rw [txt_list, txt_list, hpre, htrim]
  exact conc_tup2 (.l (.str _)) (.l (.bool _))
end Go.X
set_option linter.unusedVariables false
set_option linter.unusedSimpArgs false
set_option maxHeartbeats 20000000
set_option maxRecDepth 100000
namespace Go.X
open Go.Proofs.Tryd (prog)

def rdB (s : List UInt8) (left : Int) (x : Lf) : Blk := .cells 49 [[txt s, .int .i64 left, .int .i64 0, x]] 0
def cutc (c : UInt8) (s : List UInt8) : List UInt8 := if s.head? = some c then s.tail else s
theorem sign_spec (s : List UInt8) (left : Int) (x : Lf) (c : UInt8) (id : Nat) (M : Mem) (hM : M id = some (rdB s left x)) :
    XCalls Go.Proofs.Tryd.prog 39 [.l (.ptr id 0 0), .l (txt [c])] M fun r M' => r = .l (.bool (decide (s.head? = some c))) ∧ M' = M.set id (rdB (cutc c s) left x) := by
  refine xcalls_intro (rs := [.tmp 4]) Go.Proofs.Tryd.func39 rfl (by kernel_rfl) rfl rfl (by kernel_rfl) (by simp) ?_
  rw [rdB, txt] at hM
  simp -implicitDefEqProofs (maxSteps := 1000000) (disch := omega) only [↓xsP, ↓vc_seq, xsQ, xsT, xsR, xsD, ↓reduceIte, reduceCtorEq, eq_self, ne_eq, imp_self, forall_const, Nat.reduceEqDiff, Nat.reduceAdd, Nat.reduceSub, Nat.reduceMul, Nat.reduceLT, Nat.reduceLeDiff, Nat.reduceBEq, Nat.reduceDiv, Nat.reduceMod, Int.reduceToNat, Int.reduceNeg, Int.reduceAdd, Int.reduceSub, Int.reduceMul, Int.reduceEq, Int.reduceNe, Int.reduceLT, Int.reduceLE, Int.reduceGT, Int.reduceGE, hM, txt]
  refine callI_of ((cut_spec s c _).mono ?_)
  rintro _ _ ⟨rfl, rfl⟩
  simp -implicitDefEqProofs (maxSteps := 1000000) (disch := omega) only [↓xsP, ↓vc_seq, xsQ, xsT, xsR, xsD, ↓reduceIte, reduceCtorEq, eq_self, ne_eq, imp_self, forall_const, Nat.reduceEqDiff, Nat.reduceAdd, Nat.reduceSub, Nat.reduceMul, Nat.reduceLT, Nat.reduceLeDiff, Nat.reduceBEq, Nat.reduceDiv, Nat.reduceMod, Int.reduceToNat, Int.reduceNeg, Int.reduceAdd, Int.reduceSub, Int.reduceMul, Int.reduceEq, Int.reduceNe, Int.reduceLT, Int.reduceLE, Int.reduceGT, Int.reduceGE, hM, txt]
  exact fin_ok (Mem.le_refl _) ⟨rfl, rfl⟩
def Tk (a : List UInt8) : Prop := a = [] ∨ ∃ c r, a = c :: r ∧ (c = 45 ∨ dg c = true) ∧ ∀ d ∈ r, dg d = true
theorem tok_at {a b : List UInt8} (h : Tk a) (h0 : a = [] → ∀ c, b.head? = some c → c ≠ 45 ∧ dg c = false) (h1 : a ≠ [] → nd b) : tok (a ++ b) = a := by
  rcases h with rfl | ⟨c, r, rfl, hc, hr⟩
  · cases b with
    | nil => rfl
    | cons c r =>
      obtain ⟨g1, g2⟩ := h0 rfl c rfl
      rw [List.nil_append, tok, if_neg g1, List.takeWhile_cons, if_neg (by rw [g2]; decide)]
  · have hb := h1 (by simp)
    rw [List.cons_append, tok]
    split
    · rename_i e
      rw [takeWhile_nd hr hb, e]
    · rename_i e
      have hc' : dg c = true := hc.resolve_left e
      rw [← List.cons_append, takeWhile_nd (fun d hd => ?_) hb]
      rcases List.mem_cons.1 hd with rfl | hd
      · exact hc'
      · exact hr d hd
theorem Tk.snoc {a : List UInt8} {c : UInt8} (h : Tk a) (hc : dg c = true ∨ (a = [] ∧ c = 45)) : Tk (a ++ [c]) := by
  rcases h with rfl | ⟨d, r, rfl, hd, hr⟩
  · refine .inr ⟨c, [], rfl, ?_, fun d hd => by cases hd⟩
    rcases hc with hc | ⟨_, hc⟩
    · exact .inr hc
    · exact .inl hc
  · have hc' : dg c = true := hc.resolve_right fun h => by cases h.1
    refine .inr ⟨d, r ++ [c], rfl, hd, fun x hx => ?_⟩
    rcases List.mem_append.1 hx with hx | hx
    · exact hr x hx
    · rw [List.mem_singleton.1 hx]; exact hc'
theorem number_spec (s : List UInt8) (hs : s.length ≤ 1000000) (left : Int) (x : Lf) (id : Nat) (M : Mem) (hM : M id = some (rdB s left x)) :
    XCalls Go.Proofs.Tryd.prog 56 [.l (.ptr id 0 0)] M fun r M' => M' = M.set id (rdB (s.drop (tok s).length) left x) ∧
      ((∃ v, NumAt s v (s.drop (tok s).length) ∧ r = .tup [.l (.int .i64 v), .l (.bool true)]) ∨ ((∀ v t, ¬ NumAt s v t) ∧ ∃ n, r = .tup [.l (.int .i64 n), .l (.bool false)])) := by
  refine xcalls_intro (rs := [.tmp 2, .tmp 3]) Go.Proofs.Tryd.func56 rfl (by kernel_rfl) rfl rfl (by kernel_rfl) (by simp) ?_
  rw [rdB, txt] at hM
  simp -implicitDefEqProofs (maxSteps := 1000000) (disch := omega) only [↓xsP, ↓vc_seq, xsQ, xsT, xsR, xsD, ↓reduceIte, reduceCtorEq, eq_self, ne_eq, imp_self, forall_const, Nat.reduceEqDiff, Nat.reduceAdd, Nat.reduceSub, Nat.reduceMul, Nat.reduceLT, Nat.reduceLeDiff, Nat.reduceBEq, Nat.reduceDiv, Nat.reduceMod, Int.reduceToNat, Int.reduceNeg, Int.reduceAdd, Int.reduceSub, Int.reduceMul, Int.reduceEq, Int.reduceNe, Int.reduceLT, Int.reduceLE, Int.reduceGT, Int.reduceGE]
  refine loopI_of (xloop (by kernel_rfl) (fun k fr M2 => ∃ i : Nat, i ≤ s.length ∧ k = s.length - i ∧ Tk (s.take i) ∧ fr 0 = .l (.ptr id 0 0) ∧ fr 4 = .l (.int .i64 i) ∧ M2 = M) s.length ?_ ?_)
  · exact ⟨0, Nat.zero_le _, rfl, .inl rfl, by simp -implicitDefEqProofs (maxSteps := 1000000) (disch := omega) only [↓xsP, ↓vc_seq, xsQ, xsT, xsR, xsD, ↓reduceIte, reduceCtorEq, eq_self, ne_eq, imp_self, forall_const, Nat.reduceEqDiff, Nat.reduceAdd, Nat.reduceSub, Nat.reduceMul, Nat.reduceLT, Nat.reduceLeDiff, Nat.reduceBEq, Nat.reduceDiv, Nat.reduceMod, Int.reduceToNat, Int.reduceNeg, Int.reduceAdd, Int.reduceSub, Int.reduceMul, Int.reduceEq, Int.reduceNe, Int.reduceLT, Int.reduceLE, Int.reduceGT, Int.reduceGE], by simp -implicitDefEqProofs (maxSteps := 1000000) (disch := omega) only [↓xsP, ↓vc_seq, xsQ, xsT, xsR, xsD, ↓reduceIte, reduceCtorEq, eq_self, ne_eq, imp_self, forall_const, Nat.reduceEqDiff, Nat.reduceAdd, Nat.reduceSub, Nat.reduceMul, Nat.reduceLT, Nat.reduceLeDiff, Nat.reduceBEq, Nat.reduceDiv, Nat.reduceMod, Int.reduceToNat, Int.reduceNeg, Int.reduceAdd, Int.reduceSub, Int.reduceMul, Int.reduceEq, Int.reduceNe, Int.reduceLT, Int.reduceLE, Int.reduceGT, Int.reduceGE, Int.cast_ofNat_Int], rfl⟩
  rintro k fr M2 ⟨i, hi, rfl, htk, f0, f4, rfl⟩
  have hend : tok s = s.take i → True := fun _ => trivial
  simp -implicitDefEqProofs (maxSteps := 1000000) (disch := omega) only [↓xsP, ↓vc_seq, xsQ, xsT, xsR, xsD, ↓reduceIte, reduceCtorEq, eq_self, ne_eq, imp_self, forall_const, Nat.reduceEqDiff, Nat.reduceAdd, Nat.reduceSub, Nat.reduceMul, Nat.reduceLT, Nat.reduceLeDiff, Nat.reduceBEq, Nat.reduceDiv, Nat.reduceMod, Int.reduceToNat, Int.reduceNeg, Int.reduceAdd, Int.reduceSub, Int.reduceMul, Int.reduceEq, Int.reduceNe, Int.reduceLT, Int.reduceLE, Int.reduceGT, Int.reduceGE, f0, f4, hM, ba_size]
  by_cases hil : i < s.length
  rotate_left
  · have q1 : decide ((i : Int) < (s.length : Int)) = false := decide_eq_false (by omega)
    simp -implicitDefEqProofs (maxSteps := 1000000) (disch := omega) only [↓xsP, ↓vc_seq, xsQ, xsT, xsR, xsD, ↓reduceIte, reduceCtorEq, eq_self, ne_eq, imp_self, forall_const, Nat.reduceEqDiff, Nat.reduceAdd, Nat.reduceSub, Nat.reduceMul, Nat.reduceLT, Nat.reduceLeDiff, Nat.reduceBEq, Nat.reduceDiv, Nat.reduceMod, Int.reduceToNat, Int.reduceNeg, Int.reduceAdd, Int.reduceSub, Int.reduceMul, Int.reduceEq, Int.reduceNe, Int.reduceLT, Int.reduceLE, Int.reduceGT, Int.reduceGE, f0, f4, hM, ba_size, q1]
    have hk : tok s = s.take i := by
      have hii : i = s.length := by omega
      rw [hii, List.take_of_length_le (Nat.le_refl _)] at htk ⊢
      have := tok_at (b := []) htk (fun _ c h => by cases h) (fun _ c h => by cases h)
      rwa [List.append_nil] at this
    have hkl : (tok s).length = i := by rw [hk, List.length_take]; omega
    have i0 : (0 ≤ (i : Int)) = True := eq_true (by omega)
    have il : (i ≤ s.length) = True := eq_true hi
    have ill : (s.length : Nat) ≤ s.length := Nat.le_refl _
    simp -implicitDefEqProofs (maxSteps := 1000000) (disch := omega) only [↓xsP, ↓vc_seq, xsQ, xsT, xsR, xsD, ↓reduceIte, reduceCtorEq, eq_self, ne_eq, imp_self, forall_const, Nat.reduceEqDiff, Nat.reduceAdd, Nat.reduceSub, Nat.reduceMul, Nat.reduceLT, Nat.reduceLeDiff, Nat.reduceBEq, Nat.reduceDiv, Nat.reduceMod, Int.reduceToNat, Int.reduceNeg, Int.reduceAdd, Int.reduceSub, Int.reduceMul, Int.reduceEq, Int.reduceNe, Int.reduceLT, Int.reduceLE, Int.reduceGT, Int.reduceGE, f0, f4, hM, ba_size, ba_ext, i0, il]
    refine callI_of ((atoi_spec (s.take i) (by rw [List.length_take]; omega) _).mono ?_)
    rintro _ _ ⟨rfl, h | h⟩
    · obtain ⟨v, ha, rfl⟩ := h
      have hvb := Lib.atoiAll_bounds ha
      simp -implicitDefEqProofs (maxSteps := 1000000) (disch := omega) only [↓xsP, ↓vc_seq, xsQ, xsT, xsR, xsD, ↓reduceIte, reduceCtorEq, eq_self, ne_eq, imp_self, forall_const, Nat.reduceEqDiff, Nat.reduceAdd, Nat.reduceSub, Nat.reduceMul, Nat.reduceLT, Nat.reduceLeDiff, Nat.reduceBEq, Nat.reduceDiv, Nat.reduceMod, Int.reduceToNat, Int.reduceNeg, Int.reduceAdd, Int.reduceSub, Int.reduceMul, Int.reduceEq, Int.reduceNe, Int.reduceLT, Int.reduceLE, Int.reduceGT, Int.reduceGE, f0, f4, hM, ba_size, ba_ext, i0, il]
      refine xquiet (by kernel_rfl) (by kernel_rfl) (by kernel_rfl) ?_
      simp -implicitDefEqProofs (maxSteps := 1000000) (disch := omega) only [↓xsP, ↓vc_seq, xsQ, xsT, xsR, xsD, ↓reduceIte, reduceCtorEq, eq_self, ne_eq, imp_self, forall_const, Nat.reduceEqDiff, Nat.reduceAdd, Nat.reduceSub, Nat.reduceMul, Nat.reduceLT, Nat.reduceLeDiff, Nat.reduceBEq, Nat.reduceDiv, Nat.reduceMod, Int.reduceToNat, Int.reduceNeg, Int.reduceAdd, Int.reduceSub, Int.reduceMul, Int.reduceEq, Int.reduceNe, Int.reduceLT, Int.reduceLE, Int.reduceGT, Int.reduceGE, f0, f4, hM, ba_size, ba_ext, i0, il]
      refine dcallI_of (itoa_spec v hvb.1 hvb.2 _) ?_
      simp -implicitDefEqProofs (maxSteps := 1000000) (disch := omega) only [↓xsP, ↓vc_seq, xsQ, xsT, xsR, xsD, ↓reduceIte, reduceCtorEq, eq_self, ne_eq, imp_self, forall_const, Nat.reduceEqDiff, Nat.reduceAdd, Nat.reduceSub, Nat.reduceMul, Nat.reduceLT, Nat.reduceLeDiff, Nat.reduceBEq, Nat.reduceDiv, Nat.reduceMod, Int.reduceToNat, Int.reduceNeg, Int.reduceAdd, Int.reduceSub, Int.reduceMul, Int.reduceEq, Int.reduceNe, Int.reduceLT, Int.reduceLE, Int.reduceGT, Int.reduceGE, f0, f4, hM, ba_size, ba_ext, i0, il, txt, ba_eq]
      have hfin : (s.drop i).take (s.length - i) = s.drop i := List.take_of_length_le (by rw [List.length_drop]; exact Nat.le_refl _)
      rw [hfin]
      refine fin_ok (Mem.le_refl _) ⟨by rw [hkl]; rfl, ?_⟩
      by_cases he : Lib.itoa v = s.take i
      · refine .inl ⟨v, numAt_iff.2 ⟨by rw [hk]; exact ha, by rw [hk]; exact he, rfl⟩, ?_⟩
        rw [decide_eq_true he]
      · refine .inr ⟨fun v' t' hn => ?_, v, ?_⟩
        · obtain ⟨g1, g2, g3⟩ := numAt_iff.1 hn
          rw [hk, ha] at g1
          injection g1 with g1
          rw [g1] at he
          exact he (g2.trans hk)
        · rw [decide_eq_false he]
    · obtain ⟨ha, n, d, v, rfl⟩ := h
      simp -implicitDefEqProofs (maxSteps := 1000000) (disch := omega) only [↓xsP, ↓vc_seq, xsQ, xsT, xsR, xsD, ↓reduceIte, reduceCtorEq, eq_self, ne_eq, imp_self, forall_const, Nat.reduceEqDiff, Nat.reduceAdd, Nat.reduceSub, Nat.reduceMul, Nat.reduceLT, Nat.reduceLeDiff, Nat.reduceBEq, Nat.reduceDiv, Nat.reduceMod, Int.reduceToNat, Int.reduceNeg, Int.reduceAdd, Int.reduceSub, Int.reduceMul, Int.reduceEq, Int.reduceNe, Int.reduceLT, Int.reduceLE, Int.reduceGT, Int.reduceGE, f0, f4, hM, ba_size, ba_ext, i0, il]
      refine xquiet (by kernel_rfl) (by kernel_rfl) (by kernel_rfl) ?_
      simp -implicitDefEqProofs (maxSteps := 1000000) (disch := omega) only [↓xsP, ↓vc_seq, xsQ, xsT, xsR, xsD, ↓reduceIte, reduceCtorEq, eq_self, ne_eq, imp_self, forall_const, Nat.reduceEqDiff, Nat.reduceAdd, Nat.reduceSub, Nat.reduceMul, Nat.reduceLT, Nat.reduceLeDiff, Nat.reduceBEq, Nat.reduceDiv, Nat.reduceMod, Int.reduceToNat, Int.reduceNeg, Int.reduceAdd, Int.reduceSub, Int.reduceMul, Int.reduceEq, Int.reduceNe, Int.reduceLT, Int.reduceLE, Int.reduceGT, Int.reduceGE, f0, f4, hM, ba_size, ba_ext, i0, il]
      have hfin : (s.drop i).take (s.length - i) = s.drop i := List.take_of_length_le (by rw [List.length_drop]; exact Nat.le_refl _)
      rw [hfin]
      refine fin_ok (Mem.le_refl _) ⟨by rw [hkl]; rfl, .inr ⟨fun v' t' hn => ?_, n, rfl⟩⟩
      obtain ⟨g1, g2, g3⟩ := numAt_iff.1 hn
      rw [hk] at g1
      exact ha v' g1
  have q1 : decide ((i : Int) < (s.length : Int)) = true := decide_eq_true (by omega)
  obtain ⟨c, hc⟩ : ∃ c, s[i]? = some c := ⟨_, List.getElem?_eq_getElem hil⟩
  have i00 : (0 ≤ (i : Int)) = True := eq_true (by omega)
  have hci : s.toArray[i]? = some c := by rw [List.getElem?_toArray]; exact hc
  have hsplit : s = s.take i ++ c :: s.drop (i + 1) := by
    obtain ⟨h1, h2⟩ := List.getElem?_eq_some_iff.1 hc
    rw [← h2, ← List.drop_eq_getElem_cons, List.take_append_drop]
  have htk1 : s.take (i + 1) = s.take i ++ [c] := by
    obtain ⟨h1, h2⟩ := List.getElem?_eq_some_iff.1 hc
    rw [List.take_add_one, hc]
    rfl
  simp -implicitDefEqProofs (maxSteps := 1000000) (disch := omega) only [↓xsP, ↓vc_seq, xsQ, xsT, xsR, xsD, ↓reduceIte, reduceCtorEq, eq_self, ne_eq, imp_self, forall_const, Nat.reduceEqDiff, Nat.reduceAdd, Nat.reduceSub, Nat.reduceMul, Nat.reduceLT, Nat.reduceLeDiff, Nat.reduceBEq, Nat.reduceDiv, Nat.reduceMod, Int.reduceToNat, Int.reduceNeg, Int.reduceAdd, Int.reduceSub, Int.reduceMul, Int.reduceEq, Int.reduceNe, Int.reduceLT, Int.reduceLE, Int.reduceGT, Int.reduceGE, f0, f4, hM, ba_size, ba_get, hci, q1, i00]
  have hgo : (dg c = true ∨ (s.take i = [] ∧ c = 45)) → ∃ k' M', k' < s.length - i ∧ M'.le M2 ∧ ∃ j : Nat, j ≤ s.length ∧ k' = s.length - j ∧ Tk (s.take j) ∧ AV.l (.int .i64 ((i : Int) + 1)) = .l (.int .i64 j) ∧ M' = M2 := fun hd => by
    refine ⟨s.length - (i + 1), M2, by omega, Mem.le_refl _, i + 1, by omega, rfl, ?_, by simp, rfl⟩
    rw [htk1]
    exact htk.snoc hd
  by_cases d1 : 48 ≤ c.toNat
  · have w1 : decide ((c.toNat : Int) ≥ 48) = true := decide_eq_true (by omega)
    by_cases d2 : c.toNat ≤ 57
    · have w2 : decide ((c.toNat : Int) ≤ 57) = true := decide_eq_true (by omega)
      simp -implicitDefEqProofs (maxSteps := 1000000) (disch := omega) only [↓xsP, ↓vc_seq, xsQ, xsT, xsR, xsD, ↓reduceIte, reduceCtorEq, eq_self, ne_eq, imp_self, forall_const, Nat.reduceEqDiff, Nat.reduceAdd, Nat.reduceSub, Nat.reduceMul, Nat.reduceLT, Nat.reduceLeDiff, Nat.reduceBEq, Nat.reduceDiv, Nat.reduceMod, Int.reduceToNat, Int.reduceNeg, Int.reduceAdd, Int.reduceSub, Int.reduceMul, Int.reduceEq, Int.reduceNe, Int.reduceLT, Int.reduceLE, Int.reduceGT, Int.reduceGE, f0, f4, hM, ba_size, ba_get, hci, q1, i00, w1, w2]
      exact hgo (.inl (dg_iff.2 ⟨d1, d2⟩))
    · have w2 : decide ((c.toNat : Int) ≤ 57) = false := decide_eq_false (by omega)
      simp -implicitDefEqProofs (maxSteps := 1000000) (disch := omega) only [↓xsP, ↓vc_seq, xsQ, xsT, xsR, xsD, ↓reduceIte, reduceCtorEq, eq_self, ne_eq, imp_self, forall_const, Nat.reduceEqDiff, Nat.reduceAdd, Nat.reduceSub, Nat.reduceMul, Nat.reduceLT, Nat.reduceLeDiff, Nat.reduceBEq, Nat.reduceDiv, Nat.reduceMod, Int.reduceToNat, Int.reduceNeg, Int.reduceAdd, Int.reduceSub, Int.reduceMul, Int.reduceEq, Int.reduceNe, Int.reduceLT, Int.reduceLE, Int.reduceGT, Int.reduceGE, f0, f4, hM, ba_size, ba_get, hci, q1, i00, w1, w2]
      have hdg : dg c = false := by
        rw [dg, decide_eq_false d2]
        simp
      by_cases h0 : i = 0
      · have w0 : decide ((i : Int) = 0) = true := decide_eq_true (by omega)
        have hi0 := h0
        have hci0 : s.toArray[0]? = some c := by rw [← h0]; exact hci
        simp -implicitDefEqProofs (maxSteps := 1000000) (disch := omega) only [↓xsP, ↓vc_seq, xsQ, xsT, xsR, xsD, ↓reduceIte, reduceCtorEq, eq_self, ne_eq, imp_self, forall_const, Nat.reduceEqDiff, Nat.reduceAdd, Nat.reduceSub, Nat.reduceMul, Nat.reduceLT, Nat.reduceLeDiff, Nat.reduceBEq, Nat.reduceDiv, Nat.reduceMod, Int.reduceToNat, Int.reduceNeg, Int.reduceAdd, Int.reduceSub, Int.reduceMul, Int.reduceEq, Int.reduceNe, Int.reduceLT, Int.reduceLE, Int.reduceGT, Int.reduceGE, f0, f4, hM, ba_size, ba_get, hci0, q1, i00, w0, w1, w2]
        by_cases d3 : c = 45
        · have w3 : decide ((c.toNat : Int) = 45) = true := decide_eq_true (by rw [d3]; rfl)
          simp -implicitDefEqProofs (maxSteps := 1000000) (disch := omega) only [↓xsP, ↓vc_seq, xsQ, xsT, xsR, xsD, ↓reduceIte, reduceCtorEq, eq_self, ne_eq, imp_self, forall_const, Nat.reduceEqDiff, Nat.reduceAdd, Nat.reduceSub, Nat.reduceMul, Nat.reduceLT, Nat.reduceLeDiff, Nat.reduceBEq, Nat.reduceDiv, Nat.reduceMod, Int.reduceToNat, Int.reduceNeg, Int.reduceAdd, Int.reduceSub, Int.reduceMul, Int.reduceEq, Int.reduceNe, Int.reduceLT, Int.reduceLE, Int.reduceGT, Int.reduceGE, f0, f4, hM, ba_size, ba_get, hci0, q1, i00, w0, w3, w1, w2]
          exact hgo (.inr ⟨by rw [h0]; rfl, d3⟩)
        · have w3 : decide ((c.toNat : Int) = 45) = false := decide_eq_false fun h => d3 (UInt8.toNat_inj.1 (by show c.toNat = 45; omega))
          simp -implicitDefEqProofs (maxSteps := 1000000) (disch := omega) only [↓xsP, ↓vc_seq, xsQ, xsT, xsR, xsD, ↓reduceIte, reduceCtorEq, eq_self, ne_eq, imp_self, forall_const, Nat.reduceEqDiff, Nat.reduceAdd, Nat.reduceSub, Nat.reduceMul, Nat.reduceLT, Nat.reduceLeDiff, Nat.reduceBEq, Nat.reduceDiv, Nat.reduceMod, Int.reduceToNat, Int.reduceNeg, Int.reduceAdd, Int.reduceSub, Int.reduceMul, Int.reduceEq, Int.reduceNe, Int.reduceLT, Int.reduceLE, Int.reduceGT, Int.reduceGE, f0, f4, hM, ba_size, ba_get, hci0, q1, i00, w0, w3, w1, w2]
          have hk : tok s = s.take i := by
            rw [h0]
            have := tok_at (a := []) (b := s) (.inl rfl) (fun _ d hd => by
              rw [hsplit, h0] at hd
              simp only [List.take_zero, List.nil_append, List.head?_cons, Option.some.injEq] at hd
              rw [← hd]
              exact ⟨d3, hdg⟩) (fun h => absurd rfl h)
            exact this
          have hkl : (tok s).length = i := by rw [hk, List.length_take]; omega
          have i0 : (0 ≤ (i : Int)) = True := eq_true (by omega)
          have il : (i ≤ s.length) = True := eq_true hi
          have ill : (s.length : Nat) ≤ s.length := Nat.le_refl _
          simp -implicitDefEqProofs (maxSteps := 1000000) (disch := omega) only [↓xsP, ↓vc_seq, xsQ, xsT, xsR, xsD, ↓reduceIte, reduceCtorEq, eq_self, ne_eq, imp_self, forall_const, Nat.reduceEqDiff, Nat.reduceAdd, Nat.reduceSub, Nat.reduceMul, Nat.reduceLT, Nat.reduceLeDiff, Nat.reduceBEq, Nat.reduceDiv, Nat.reduceMod, Int.reduceToNat, Int.reduceNeg, Int.reduceAdd, Int.reduceSub, Int.reduceMul, Int.reduceEq, Int.reduceNe, Int.reduceLT, Int.reduceLE, Int.reduceGT, Int.reduceGE, f0, f4, hM, ba_size, ba_ext, i0, il]
          refine callI_of ((atoi_spec (s.take i) (by rw [List.length_take]; omega) _).mono ?_)
          rintro _ _ ⟨rfl, h | h⟩
          · obtain ⟨v, ha, rfl⟩ := h
            have hvb := Lib.atoiAll_bounds ha
            simp -implicitDefEqProofs (maxSteps := 1000000) (disch := omega) only [↓xsP, ↓vc_seq, xsQ, xsT, xsR, xsD, ↓reduceIte, reduceCtorEq, eq_self, ne_eq, imp_self, forall_const, Nat.reduceEqDiff, Nat.reduceAdd, Nat.reduceSub, Nat.reduceMul, Nat.reduceLT, Nat.reduceLeDiff, Nat.reduceBEq, Nat.reduceDiv, Nat.reduceMod, Int.reduceToNat, Int.reduceNeg, Int.reduceAdd, Int.reduceSub, Int.reduceMul, Int.reduceEq, Int.reduceNe, Int.reduceLT, Int.reduceLE, Int.reduceGT, Int.reduceGE, f0, f4, hM, ba_size, ba_ext, i0, il]
            refine xquiet (by kernel_rfl) (by kernel_rfl) (by kernel_rfl) ?_
            simp -implicitDefEqProofs (maxSteps := 1000000) (disch := omega) only [↓xsP, ↓vc_seq, xsQ, xsT, xsR, xsD, ↓reduceIte, reduceCtorEq, eq_self, ne_eq, imp_self, forall_const, Nat.reduceEqDiff, Nat.reduceAdd, Nat.reduceSub, Nat.reduceMul, Nat.reduceLT, Nat.reduceLeDiff, Nat.reduceBEq, Nat.reduceDiv, Nat.reduceMod, Int.reduceToNat, Int.reduceNeg, Int.reduceAdd, Int.reduceSub, Int.reduceMul, Int.reduceEq, Int.reduceNe, Int.reduceLT, Int.reduceLE, Int.reduceGT, Int.reduceGE, f0, f4, hM, ba_size, ba_ext, i0, il]
            refine dcallI_of (itoa_spec v hvb.1 hvb.2 _) ?_
            simp -implicitDefEqProofs (maxSteps := 1000000) (disch := omega) only [↓xsP, ↓vc_seq, xsQ, xsT, xsR, xsD, ↓reduceIte, reduceCtorEq, eq_self, ne_eq, imp_self, forall_const, Nat.reduceEqDiff, Nat.reduceAdd, Nat.reduceSub, Nat.reduceMul, Nat.reduceLT, Nat.reduceLeDiff, Nat.reduceBEq, Nat.reduceDiv, Nat.reduceMod, Int.reduceToNat, Int.reduceNeg, Int.reduceAdd, Int.reduceSub, Int.reduceMul, Int.reduceEq, Int.reduceNe, Int.reduceLT, Int.reduceLE, Int.reduceGT, Int.reduceGE, f0, f4, hM, ba_size, ba_ext, i0, il, txt, ba_eq]
            have hfin : (s.drop i).take (s.length - i) = s.drop i := List.take_of_length_le (by rw [List.length_drop]; exact Nat.le_refl _)
            rw [hfin]
            refine fin_ok (Mem.le_refl _) ⟨by rw [hkl]; rfl, ?_⟩
            by_cases he : Lib.itoa v = s.take i
            · refine .inl ⟨v, numAt_iff.2 ⟨by rw [hk]; exact ha, by rw [hk]; exact he, rfl⟩, ?_⟩
              rw [decide_eq_true he]
            · refine .inr ⟨fun v' t' hn => ?_, v, ?_⟩
              · obtain ⟨g1, g2, g3⟩ := numAt_iff.1 hn
                rw [hk, ha] at g1
                injection g1 with g1
                rw [g1] at he
                exact he (g2.trans hk)
              · rw [decide_eq_false he]
          · obtain ⟨ha, n, d, v, rfl⟩ := h
            simp -implicitDefEqProofs (maxSteps := 1000000) (disch := omega) only [↓xsP, ↓vc_seq, xsQ, xsT, xsR, xsD, ↓reduceIte, reduceCtorEq, eq_self, ne_eq, imp_self, forall_const, Nat.reduceEqDiff, Nat.reduceAdd, Nat.reduceSub, Nat.reduceMul, Nat.reduceLT, Nat.reduceLeDiff, Nat.reduceBEq, Nat.reduceDiv, Nat.reduceMod, Int.reduceToNat, Int.reduceNeg, Int.reduceAdd, Int.reduceSub, Int.reduceMul, Int.reduceEq, Int.reduceNe, Int.reduceLT, Int.reduceLE, Int.reduceGT, Int.reduceGE, f0, f4, hM, ba_size, ba_ext, i0, il]
            refine xquiet (by kernel_rfl) (by kernel_rfl) (by kernel_rfl) ?_
            simp -implicitDefEqProofs (maxSteps := 1000000) (disch := omega) only [↓xsP, ↓vc_seq, xsQ, xsT, xsR, xsD, ↓reduceIte, reduceCtorEq, eq_self, ne_eq, imp_self, forall_const, Nat.reduceEqDiff, Nat.reduceAdd, Nat.reduceSub, Nat.reduceMul, Nat.reduceLT, Nat.reduceLeDiff, Nat.reduceBEq, Nat.reduceDiv, Nat.reduceMod, Int.reduceToNat, Int.reduceNeg, Int.reduceAdd, Int.reduceSub, Int.reduceMul, Int.reduceEq, Int.reduceNe, Int.reduceLT, Int.reduceLE, Int.reduceGT, Int.reduceGE, f0, f4, hM, ba_size, ba_ext, i0, il]
            have hfin : (s.drop i).take (s.length - i) = s.drop i := List.take_of_length_le (by rw [List.length_drop]; exact Nat.le_refl _)
            rw [hfin]
            refine fin_ok (Mem.le_refl _) ⟨by rw [hkl]; rfl, .inr ⟨fun v' t' hn => ?_, n, rfl⟩⟩
            obtain ⟨g1, g2, g3⟩ := numAt_iff.1 hn
            rw [hk] at g1
            exact ha v' g1
      · have w0 : decide ((i : Int) = 0) = false := decide_eq_false (by omega)
        simp -implicitDefEqProofs (maxSteps := 1000000) (disch := omega) only [↓xsP, ↓vc_seq, xsQ, xsT, xsR, xsD, ↓reduceIte, reduceCtorEq, eq_self, ne_eq, imp_self, forall_const, Nat.reduceEqDiff, Nat.reduceAdd, Nat.reduceSub, Nat.reduceMul, Nat.reduceLT, Nat.reduceLeDiff, Nat.reduceBEq, Nat.reduceDiv, Nat.reduceMod, Int.reduceToNat, Int.reduceNeg, Int.reduceAdd, Int.reduceSub, Int.reduceMul, Int.reduceEq, Int.reduceNe, Int.reduceLT, Int.reduceLE, Int.reduceGT, Int.reduceGE, f0, f4, hM, ba_size, ba_get, hci, q1, i00, w0, w1, w2]
        have hk : tok s = s.take i := by
          have hne : s.take i ≠ [] := fun e => by
            have := congrArg List.length e
            rw [List.length_take, List.length_nil] at this
            omega
          have := tok_at (b := c :: s.drop (i + 1)) htk (fun e => absurd e hne) (fun _ d hd => by
            simp only [List.head?_cons, Option.some.injEq] at hd
            rw [← hd]
            exact hdg)
          rwa [← hsplit] at this
        have hkl : (tok s).length = i := by rw [hk, List.length_take]; omega
        have i0 : (0 ≤ (i : Int)) = True := eq_true (by omega)
        have il : (i ≤ s.length) = True := eq_true hi
        have ill : (s.length : Nat) ≤ s.length := Nat.le_refl _
        simp -implicitDefEqProofs (maxSteps := 1000000) (disch := omega) only [↓xsP, ↓vc_seq, xsQ, xsT, xsR, xsD, ↓reduceIte, reduceCtorEq, eq_self, ne_eq, imp_self, forall_const, Nat.reduceEqDiff, Nat.reduceAdd, Nat.reduceSub, Nat.reduceMul, Nat.reduceLT, Nat.reduceLeDiff, Nat.reduceBEq, Nat.reduceDiv, Nat.reduceMod, Int.reduceToNat, Int.reduceNeg, Int.reduceAdd, Int.reduceSub, Int.reduceMul, Int.reduceEq, Int.reduceNe, Int.reduceLT, Int.reduceLE, Int.reduceGT, Int.reduceGE, f0, f4, hM, ba_size, ba_ext, i0, il]
        refine callI_of ((atoi_spec (s.take i) (by rw [List.length_take]; omega) _).mono ?_)
        rintro _ _ ⟨rfl, h | h⟩
        · obtain ⟨v, ha, rfl⟩ := h
          have hvb := Lib.atoiAll_bounds ha
          simp -implicitDefEqProofs (maxSteps := 1000000) (disch := omega) only [↓xsP, ↓vc_seq, xsQ, xsT, xsR, xsD, ↓reduceIte, reduceCtorEq, eq_self, ne_eq, imp_self, forall_const, Nat.reduceEqDiff, Nat.reduceAdd, Nat.reduceSub, Nat.reduceMul, Nat.reduceLT, Nat.reduceLeDiff, Nat.reduceBEq, Nat.reduceDiv, Nat.reduceMod, Int.reduceToNat, Int.reduceNeg, Int.reduceAdd, Int.reduceSub, Int.reduceMul, Int.reduceEq, Int.reduceNe, Int.reduceLT, Int.reduceLE, Int.reduceGT, Int.reduceGE, f0, f4, hM, ba_size, ba_ext, i0, il]
          refine xquiet (by kernel_rfl) (by kernel_rfl) (by kernel_rfl) ?_
          simp -implicitDefEqProofs (maxSteps := 1000000) (disch := omega) only [↓xsP, ↓vc_seq, xsQ, xsT, xsR, xsD, ↓reduceIte, reduceCtorEq, eq_self, ne_eq, imp_self, forall_const, Nat.reduceEqDiff, Nat.reduceAdd, Nat.reduceSub, Nat.reduceMul, Nat.reduceLT, Nat.reduceLeDiff, Nat.reduceBEq, Nat.reduceDiv, Nat.reduceMod, Int.reduceToNat, Int.reduceNeg, Int.reduceAdd, Int.reduceSub, Int.reduceMul, Int.reduceEq, Int.reduceNe, Int.reduceLT, Int.reduceLE, Int.reduceGT, Int.reduceGE, f0, f4, hM, ba_size, ba_ext, i0, il]
          refine dcallI_of (itoa_spec v hvb.1 hvb.2 _) ?_
          simp -implicitDefEqProofs (maxSteps := 1000000) (disch := omega) only [↓xsP, ↓vc_seq, xsQ, xsT, xsR, xsD, ↓reduceIte, reduceCtorEq, eq_self, ne_eq, imp_self, forall_const, Nat.reduceEqDiff, Nat.reduceAdd, Nat.reduceSub, Nat.reduceMul, Nat.reduceLT, Nat.reduceLeDiff, Nat.reduceBEq, Nat.reduceDiv, Nat.reduceMod, Int.reduceToNat, Int.reduceNeg, Int.reduceAdd, Int.reduceSub, Int.reduceMul, Int.reduceEq, Int.reduceNe, Int.reduceLT, Int.reduceLE, Int.reduceGT, Int.reduceGE, f0, f4, hM, ba_size, ba_ext, i0, il, txt, ba_eq]
          have hfin : (s.drop i).take (s.length - i) = s.drop i := List.take_of_length_le (by rw [List.length_drop]; exact Nat.le_refl _)
          rw [hfin]
          refine fin_ok (Mem.le_refl _) ⟨by rw [hkl]; rfl, ?_⟩
          by_cases he : Lib.itoa v = s.take i
          · refine .inl ⟨v, numAt_iff.2 ⟨by rw [hk]; exact ha, by rw [hk]; exact he, rfl⟩, ?_⟩
            rw [decide_eq_true he]
          · refine .inr ⟨fun v' t' hn => ?_, v, ?_⟩
            · obtain ⟨g1, g2, g3⟩ := numAt_iff.1 hn
              rw [hk, ha] at g1
              injection g1 with g1
              rw [g1] at he
              exact he (g2.trans hk)
            · rw [decide_eq_false he]
        · obtain ⟨ha, n, d, v, rfl⟩ := h
          simp -implicitDefEqProofs (maxSteps := 1000000) (disch := omega) only [↓xsP, ↓vc_seq, xsQ, xsT, xsR, xsD, ↓reduceIte, reduceCtorEq, eq_self, ne_eq, imp_self, forall_const, Nat.reduceEqDiff, Nat.reduceAdd, Nat.reduceSub, Nat.reduceMul, Nat.reduceLT, Nat.reduceLeDiff, Nat.reduceBEq, Nat.reduceDiv, Nat.reduceMod, Int.reduceToNat, Int.reduceNeg, Int.reduceAdd, Int.reduceSub, Int.reduceMul, Int.reduceEq, Int.reduceNe, Int.reduceLT, Int.reduceLE, Int.reduceGT, Int.reduceGE, f0, f4, hM, ba_size, ba_ext, i0, il]
          refine xquiet (by kernel_rfl) (by kernel_rfl) (by kernel_rfl) ?_
          simp -implicitDefEqProofs (maxSteps := 1000000) (disch := omega) only [↓xsP, ↓vc_seq, xsQ, xsT, xsR, xsD, ↓reduceIte, reduceCtorEq, eq_self, ne_eq, imp_self, forall_const, Nat.reduceEqDiff, Nat.reduceAdd, Nat.reduceSub, Nat.reduceMul, Nat.reduceLT, Nat.reduceLeDiff, Nat.reduceBEq, Nat.reduceDiv, Nat.reduceMod, Int.reduceToNat, Int.reduceNeg, Int.reduceAdd, Int.reduceSub, Int.reduceMul, Int.reduceEq, Int.reduceNe, Int.reduceLT, Int.reduceLE, Int.reduceGT, Int.reduceGE, f0, f4, hM, ba_size, ba_ext, i0, il]
          have hfin : (s.drop i).take (s.length - i) = s.drop i := List.take_of_length_le (by rw [List.length_drop]; exact Nat.le_refl _)
          rw [hfin]
          refine fin_ok (Mem.le_refl _) ⟨by rw [hkl]; rfl, .inr ⟨fun v' t' hn => ?_, n, rfl⟩⟩
          obtain ⟨g1, g2, g3⟩ := numAt_iff.1 hn
          rw [hk] at g1
          exact ha v' g1
  · have w1 : decide ((c.toNat : Int) ≥ 48) = false := decide_eq_false (by omega)
    simp -implicitDefEqProofs (maxSteps := 1000000) (disch := omega) only [↓xsP, ↓vc_seq, xsQ, xsT, xsR, xsD, ↓reduceIte, reduceCtorEq, eq_self, ne_eq, imp_self, forall_const, Nat.reduceEqDiff, Nat.reduceAdd, Nat.reduceSub, Nat.reduceMul, Nat.reduceLT, Nat.reduceLeDiff, Nat.reduceBEq, Nat.reduceDiv, Nat.reduceMod, Int.reduceToNat, Int.reduceNeg, Int.reduceAdd, Int.reduceSub, Int.reduceMul, Int.reduceEq, Int.reduceNe, Int.reduceLT, Int.reduceLE, Int.reduceGT, Int.reduceGE, f0, f4, hM, ba_size, ba_get, hci, q1, i00, w1]
    have hdg : dg c = false := by
      rw [dg, decide_eq_false d1]
      simp
    by_cases h0 : i = 0
    · have w0 : decide ((i : Int) = 0) = true := decide_eq_true (by omega)
      have hi0 := h0
      have hci0 : s.toArray[0]? = some c := by rw [← h0]; exact hci
      simp -implicitDefEqProofs (maxSteps := 1000000) (disch := omega) only [↓xsP, ↓vc_seq, xsQ, xsT, xsR, xsD, ↓reduceIte, reduceCtorEq, eq_self, ne_eq, imp_self, forall_const, Nat.reduceEqDiff, Nat.reduceAdd, Nat.reduceSub, Nat.reduceMul, Nat.reduceLT, Nat.reduceLeDiff, Nat.reduceBEq, Nat.reduceDiv, Nat.reduceMod, Int.reduceToNat, Int.reduceNeg, Int.reduceAdd, Int.reduceSub, Int.reduceMul, Int.reduceEq, Int.reduceNe, Int.reduceLT, Int.reduceLE, Int.reduceGT, Int.reduceGE, f0, f4, hM, ba_size, ba_get, hci0, q1, i00, w0, w1]
      by_cases d3 : c = 45
      · have w3 : decide ((c.toNat : Int) = 45) = true := decide_eq_true (by rw [d3]; rfl)
        simp -implicitDefEqProofs (maxSteps := 1000000) (disch := omega) only [↓xsP, ↓vc_seq, xsQ, xsT, xsR, xsD, ↓reduceIte, reduceCtorEq, eq_self, ne_eq, imp_self, forall_const, Nat.reduceEqDiff, Nat.reduceAdd, Nat.reduceSub, Nat.reduceMul, Nat.reduceLT, Nat.reduceLeDiff, Nat.reduceBEq, Nat.reduceDiv, Nat.reduceMod, Int.reduceToNat, Int.reduceNeg, Int.reduceAdd, Int.reduceSub, Int.reduceMul, Int.reduceEq, Int.reduceNe, Int.reduceLT, Int.reduceLE, Int.reduceGT, Int.reduceGE, f0, f4, hM, ba_size, ba_get, hci0, q1, i00, w0, w3, w1]
        exact hgo (.inr ⟨by rw [h0]; rfl, d3⟩)
      · have w3 : decide ((c.toNat : Int) = 45) = false := decide_eq_false fun h => d3 (UInt8.toNat_inj.1 (by show c.toNat = 45; omega))
        simp -implicitDefEqProofs (maxSteps := 1000000) (disch := omega) only [↓xsP, ↓vc_seq, xsQ, xsT, xsR, xsD, ↓reduceIte, reduceCtorEq, eq_self, ne_eq, imp_self, forall_const, Nat.reduceEqDiff, Nat.reduceAdd, Nat.reduceSub, Nat.reduceMul, Nat.reduceLT, Nat.reduceLeDiff, Nat.reduceBEq, Nat.reduceDiv, Nat.reduceMod, Int.reduceToNat, Int.reduceNeg, Int.reduceAdd, Int.reduceSub, Int.reduceMul, Int.reduceEq, Int.reduceNe, Int.reduceLT, Int.reduceLE, Int.reduceGT, Int.reduceGE, f0, f4, hM, ba_size, ba_get, hci0, q1, i00, w0, w3, w1]
        have hk : tok s = s.take i := by
          rw [h0]
          have := tok_at (a := []) (b := s) (.inl rfl) (fun _ d hd => by
            rw [hsplit, h0] at hd
            simp only [List.take_zero, List.nil_append, List.head?_cons, Option.some.injEq] at hd
            rw [← hd]
            exact ⟨d3, hdg⟩) (fun h => absurd rfl h)
          exact this
        have hkl : (tok s).length = i := by rw [hk, List.length_take]; omega
        have i0 : (0 ≤ (i : Int)) = True := eq_true (by omega)
        have il : (i ≤ s.length) = True := eq_true hi
        have ill : (s.length : Nat) ≤ s.length := Nat.le_refl _
        simp -implicitDefEqProofs (maxSteps := 1000000) (disch := omega) only [↓xsP, ↓vc_seq, xsQ, xsT, xsR, xsD, ↓reduceIte, reduceCtorEq, eq_self, ne_eq, imp_self, forall_const, Nat.reduceEqDiff, Nat.reduceAdd, Nat.reduceSub, Nat.reduceMul, Nat.reduceLT, Nat.reduceLeDiff, Nat.reduceBEq, Nat.reduceDiv, Nat.reduceMod, Int.reduceToNat, Int.reduceNeg, Int.reduceAdd, Int.reduceSub, Int.reduceMul, Int.reduceEq, Int.reduceNe, Int.reduceLT, Int.reduceLE, Int.reduceGT, Int.reduceGE, f0, f4, hM, ba_size, ba_ext, i0, il]
        refine callI_of ((atoi_spec (s.take i) (by rw [List.length_take]; omega) _).mono ?_)
        rintro _ _ ⟨rfl, h | h⟩
        · obtain ⟨v, ha, rfl⟩ := h
          have hvb := Lib.atoiAll_bounds ha
          simp -implicitDefEqProofs (maxSteps := 1000000) (disch := omega) only [↓xsP, ↓vc_seq, xsQ, xsT, xsR, xsD, ↓reduceIte, reduceCtorEq, eq_self, ne_eq, imp_self, forall_const, Nat.reduceEqDiff, Nat.reduceAdd, Nat.reduceSub, Nat.reduceMul, Nat.reduceLT, Nat.reduceLeDiff, Nat.reduceBEq, Nat.reduceDiv, Nat.reduceMod, Int.reduceToNat, Int.reduceNeg, Int.reduceAdd, Int.reduceSub, Int.reduceMul, Int.reduceEq, Int.reduceNe, Int.reduceLT, Int.reduceLE, Int.reduceGT, Int.reduceGE, f0, f4, hM, ba_size, ba_ext, i0, il]
          refine xquiet (by kernel_rfl) (by kernel_rfl) (by kernel_rfl) ?_
          simp -implicitDefEqProofs (maxSteps := 1000000) (disch := omega) only [↓xsP, ↓vc_seq, xsQ, xsT, xsR, xsD, ↓reduceIte, reduceCtorEq, eq_self, ne_eq, imp_self, forall_const, Nat.reduceEqDiff, Nat.reduceAdd, Nat.reduceSub, Nat.reduceMul, Nat.reduceLT, Nat.reduceLeDiff, Nat.reduceBEq, Nat.reduceDiv, Nat.reduceMod, Int.reduceToNat, Int.reduceNeg, Int.reduceAdd, Int.reduceSub, Int.reduceMul, Int.reduceEq, Int.reduceNe, Int.reduceLT, Int.reduceLE, Int.reduceGT, Int.reduceGE, f0, f4, hM, ba_size, ba_ext, i0, il]
          refine dcallI_of (itoa_spec v hvb.1 hvb.2 _) ?_
          simp -implicitDefEqProofs (maxSteps := 1000000) (disch := omega) only [↓xsP, ↓vc_seq, xsQ, xsT, xsR, xsD, ↓reduceIte, reduceCtorEq, eq_self, ne_eq, imp_self, forall_const, Nat.reduceEqDiff, Nat.reduceAdd, Nat.reduceSub, Nat.reduceMul, Nat.reduceLT, Nat.reduceLeDiff, Nat.reduceBEq, Nat.reduceDiv, Nat.reduceMod, Int.reduceToNat, Int.reduceNeg, Int.reduceAdd, Int.reduceSub, Int.reduceMul, Int.reduceEq, Int.reduceNe, Int.reduceLT, Int.reduceLE, Int.reduceGT, Int.reduceGE, f0, f4, hM, ba_size, ba_ext, i0, il, txt, ba_eq]
          have hfin : (s.drop i).take (s.length - i) = s.drop i := List.take_of_length_le (by rw [List.length_drop]; exact Nat.le_refl _)
          rw [hfin]
          refine fin_ok (Mem.le_refl _) ⟨by rw [hkl]; rfl, ?_⟩
          by_cases he : Lib.itoa v = s.take i
          · refine .inl ⟨v, numAt_iff.2 ⟨by rw [hk]; exact ha, by rw [hk]; exact he, rfl⟩, ?_⟩
            rw [decide_eq_true he]
          · refine .inr ⟨fun v' t' hn => ?_, v, ?_⟩
            · obtain ⟨g1, g2, g3⟩ := numAt_iff.1 hn
              rw [hk, ha] at g1
              injection g1 with g1
              rw [g1] at he
              exact he (g2.trans hk)
            · rw [decide_eq_false he]
        · obtain ⟨ha, n, d, v, rfl⟩ := h
          simp -implicitDefEqProofs (maxSteps := 1000000) (disch := omega) only [↓xsP, ↓vc_seq, xsQ, xsT, xsR, xsD, ↓reduceIte, reduceCtorEq, eq_self, ne_eq, imp_self, forall_const, Nat.reduceEqDiff, Nat.reduceAdd, Nat.reduceSub, Nat.reduceMul, Nat.reduceLT, Nat.reduceLeDiff, Nat.reduceBEq, Nat.reduceDiv, Nat.reduceMod, Int.reduceToNat, Int.reduceNeg, Int.reduceAdd, Int.reduceSub, Int.reduceMul, Int.reduceEq, Int.reduceNe, Int.reduceLT, Int.reduceLE, Int.reduceGT, Int.reduceGE, f0, f4, hM, ba_size, ba_ext, i0, il]
          refine xquiet (by kernel_rfl) (by kernel_rfl) (by kernel_rfl) ?_
          simp -implicitDefEqProofs (maxSteps := 1000000) (disch := omega) only [↓xsP, ↓vc_seq, xsQ, xsT, xsR, xsD, ↓reduceIte, reduceCtorEq, eq_self, ne_eq, imp_self, forall_const, Nat.reduceEqDiff, Nat.reduceAdd, Nat.reduceSub, Nat.reduceMul, Nat.reduceLT, Nat.reduceLeDiff, Nat.reduceBEq, Nat.reduceDiv, Nat.reduceMod, Int.reduceToNat, Int.reduceNeg, Int.reduceAdd, Int.reduceSub, Int.reduceMul, Int.reduceEq, Int.reduceNe, Int.reduceLT, Int.reduceLE, Int.reduceGT, Int.reduceGE, f0, f4, hM, ba_size, ba_ext, i0, il]
          have hfin : (s.drop i).take (s.length - i) = s.drop i := List.take_of_length_le (by rw [List.length_drop]; exact Nat.le_refl _)
          rw [hfin]
          refine fin_ok (Mem.le_refl _) ⟨by rw [hkl]; rfl, .inr ⟨fun v' t' hn => ?_, n, rfl⟩⟩
          obtain ⟨g1, g2, g3⟩ := numAt_iff.1 hn
          rw [hk] at g1
          exact ha v' g1
    · have w0 : decide ((i : Int) = 0) = false := decide_eq_false (by omega)
      simp -implicitDefEqProofs (maxSteps := 1000000) (disch := omega) only [↓xsP, ↓vc_seq, xsQ, xsT, xsR, xsD, ↓reduceIte, reduceCtorEq, eq_self, ne_eq, imp_self, forall_const, Nat.reduceEqDiff, Nat.reduceAdd, Nat.reduceSub, Nat.reduceMul, Nat.reduceLT, Nat.reduceLeDiff, Nat.reduceBEq, Nat.reduceDiv, Nat.reduceMod, Int.reduceToNat, Int.reduceNeg, Int.reduceAdd, Int.reduceSub, Int.reduceMul, Int.reduceEq, Int.reduceNe, Int.reduceLT, Int.reduceLE, Int.reduceGT, Int.reduceGE, f0, f4, hM, ba_size, ba_get, hci, q1, i00, w0, w1]
      have hk : tok s = s.take i := by
        have hne : s.take i ≠ [] := fun e => by
          have := congrArg List.length e
          rw [List.length_take, List.length_nil] at this
          omega
        have := tok_at (b := c :: s.drop (i + 1)) htk (fun e => absurd e hne) (fun _ d hd => by
          simp only [List.head?_cons, Option.some.injEq] at hd
          rw [← hd]
          exact hdg)
        rwa [← hsplit] at this
      have hkl : (tok s).length = i := by rw [hk, List.length_take]; omega
      have i0 : (0 ≤ (i : Int)) = True := eq_true (by omega)
      have il : (i ≤ s.length) = True := eq_true hi
      have ill : (s.length : Nat) ≤ s.length := Nat.le_refl _
      simp -implicitDefEqProofs (maxSteps := 1000000) (disch := omega) only [↓xsP, ↓vc_seq, xsQ, xsT, xsR, xsD, ↓reduceIte, reduceCtorEq, eq_self, ne_eq, imp_self, forall_const, Nat.reduceEqDiff, Nat.reduceAdd, Nat.reduceSub, Nat.reduceMul, Nat.reduceLT, Nat.reduceLeDiff, Nat.reduceBEq, Nat.reduceDiv, Nat.reduceMod, Int.reduceToNat, Int.reduceNeg, Int.reduceAdd, Int.reduceSub, Int.reduceMul, Int.reduceEq, Int.reduceNe, Int.reduceLT, Int.reduceLE, Int.reduceGT, Int.reduceGE, f0, f4, hM, ba_size, ba_ext, i0, il]
      refine callI_of ((atoi_spec (s.take i) (by rw [List.length_take]; omega) _).mono ?_)
      rintro _ _ ⟨rfl, h | h⟩
      · obtain ⟨v, ha, rfl⟩ := h
        have hvb := Lib.atoiAll_bounds ha
        simp -implicitDefEqProofs (maxSteps := 1000000) (disch := omega) only [↓xsP, ↓vc_seq, xsQ, xsT, xsR, xsD, ↓reduceIte, reduceCtorEq, eq_self, ne_eq, imp_self, forall_const, Nat.reduceEqDiff, Nat.reduceAdd, Nat.reduceSub, Nat.reduceMul, Nat.reduceLT, Nat.reduceLeDiff, Nat.reduceBEq, Nat.reduceDiv, Nat.reduceMod, Int.reduceToNat, Int.reduceNeg, Int.reduceAdd, Int.reduceSub, Int.reduceMul, Int.reduceEq, Int.reduceNe, Int.reduceLT, Int.reduceLE, Int.reduceGT, Int.reduceGE, f0, f4, hM, ba_size, ba_ext, i0, il]
        refine xquiet (by kernel_rfl) (by kernel_rfl) (by kernel_rfl) ?_
        simp -implicitDefEqProofs (maxSteps := 1000000) (disch := omega) only [↓xsP, ↓vc_seq, xsQ, xsT, xsR, xsD, ↓reduceIte, reduceCtorEq, eq_self, ne_eq, imp_self, forall_const, Nat.reduceEqDiff, Nat.reduceAdd, Nat.reduceSub, Nat.reduceMul, Nat.reduceLT, Nat.reduceLeDiff, Nat.reduceBEq, Nat.reduceDiv, Nat.reduceMod, Int.reduceToNat, Int.reduceNeg, Int.reduceAdd, Int.reduceSub, Int.reduceMul, Int.reduceEq, Int.reduceNe, Int.reduceLT, Int.reduceLE, Int.reduceGT, Int.reduceGE, f0, f4, hM, ba_size, ba_ext, i0, il]
        refine dcallI_of (itoa_spec v hvb.1 hvb.2 _) ?_
        simp -implicitDefEqProofs (maxSteps := 1000000) (disch := omega) only [↓xsP, ↓vc_seq, xsQ, xsT, xsR, xsD, ↓reduceIte, reduceCtorEq, eq_self, ne_eq, imp_self, forall_const, Nat.reduceEqDiff, Nat.reduceAdd, Nat.reduceSub, Nat.reduceMul, Nat.reduceLT, Nat.reduceLeDiff, Nat.reduceBEq, Nat.reduceDiv, Nat.reduceMod, Int.reduceToNat, Int.reduceNeg, Int.reduceAdd, Int.reduceSub, Int.reduceMul, Int.reduceEq, Int.reduceNe, Int.reduceLT, Int.reduceLE, Int.reduceGT, Int.reduceGE, f0, f4, hM, ba_size, ba_ext, i0, il, txt, ba_eq]
        have hfin : (s.drop i).take (s.length - i) = s.drop i := List.take_of_length_le (by rw [List.length_drop]; exact Nat.le_refl _)
        rw [hfin]
        refine fin_ok (Mem.le_refl _) ⟨by rw [hkl]; rfl, ?_⟩
        by_cases he : Lib.itoa v = s.take i
        · refine .inl ⟨v, numAt_iff.2 ⟨by rw [hk]; exact ha, by rw [hk]; exact he, rfl⟩, ?_⟩
          rw [decide_eq_true he]
        · refine .inr ⟨fun v' t' hn => ?_, v, ?_⟩
          · obtain ⟨g1, g2, g3⟩ := numAt_iff.1 hn
            rw [hk, ha] at g1
            injection g1 with g1
            rw [g1] at he
            exact he (g2.trans hk)
          · rw [decide_eq_false he]
      · obtain ⟨ha, n, d, v, rfl⟩ := h
        simp -implicitDefEqProofs (maxSteps := 1000000) (disch := omega) only [↓xsP, ↓vc_seq, xsQ, xsT, xsR, xsD, ↓reduceIte, reduceCtorEq, eq_self, ne_eq, imp_self, forall_const, Nat.reduceEqDiff, Nat.reduceAdd, Nat.reduceSub, Nat.reduceMul, Nat.reduceLT, Nat.reduceLeDiff, Nat.reduceBEq, Nat.reduceDiv, Nat.reduceMod, Int.reduceToNat, Int.reduceNeg, Int.reduceAdd, Int.reduceSub, Int.reduceMul, Int.reduceEq, Int.reduceNe, Int.reduceLT, Int.reduceLE, Int.reduceGT, Int.reduceGE, f0, f4, hM, ba_size, ba_ext, i0, il]
        refine xquiet (by kernel_rfl) (by kernel_rfl) (by kernel_rfl) ?_
        simp -implicitDefEqProofs (maxSteps := 1000000) (disch := omega) only [↓xsP, ↓vc_seq, xsQ, xsT, xsR, xsD, ↓reduceIte, reduceCtorEq, eq_self, ne_eq, imp_self, forall_const, Nat.reduceEqDiff, Nat.reduceAdd, Nat.reduceSub, Nat.reduceMul, Nat.reduceLT, Nat.reduceLeDiff, Nat.reduceBEq, Nat.reduceDiv, Nat.reduceMod, Int.reduceToNat, Int.reduceNeg, Int.reduceAdd, Int.reduceSub, Int.reduceMul, Int.reduceEq, Int.reduceNe, Int.reduceLT, Int.reduceLE, Int.reduceGT, Int.reduceGE, f0, f4, hM, ba_size, ba_ext, i0, il]
        have hfin : (s.drop i).take (s.length - i) = s.drop i := List.take_of_length_le (by rw [List.length_drop]; exact Nat.le_refl _)
        rw [hfin]
        refine fin_ok (Mem.le_refl _) ⟨by rw [hkl]; rfl, .inr ⟨fun v' t' hn => ?_, n, rfl⟩⟩
        obtain ⟨g1, g2, g3⟩ := numAt_iff.1 hn
        rw [hk] at g1
        exact ha v' g1
end Go.X
set_option linter.unusedVariables false
set_option linter.unusedSimpArgs false
set_option maxHeartbeats 20000000
set_option maxRecDepth 100000
namespace Go.X
open Go.Proofs.Tryd (prog)

def PairAt (s : List UInt8) (p : Pr) (t : List UInt8) : Prop := ∃ u, NumAt s p.key (58 :: u) ∧ NumAt u p.val t
def PrsAt : Bool → List UInt8 → List Pr → List UInt8 → Prop
  | _, s, [], t => s = t
  | true, s, p :: r, t => ∃ u, PairAt s p u ∧ PrsAt false u r t
  | false, s, p :: r, t => ∃ w u, s = 44 :: w ∧ PairAt w p u ∧ PrsAt false u r t
def TreeAt : List UInt8 → Tr → List UInt8 → Prop
  | s, .leaf ps st, t => ∃ a u, s = 91 :: a ∧ PrsAt true a ps (124 :: u) ∧ NumAt u st (93 :: t)
  | s, .fork k l r, t => ∃ a b c, s = 40 :: a ∧ TreeAt a l (32 :: b) ∧ NumAt b k (32 :: c) ∧ TreeAt c r (41 :: t)
theorem pairAt_uniq {s : List UInt8} {p q : Pr} {t u : List UInt8} (h : PairAt s p t) (h' : PairAt s q u) : p = q ∧ t = u := by
  obtain ⟨a, h1, h2⟩ := h
  obtain ⟨b, g1, g2⟩ := h'
  obtain ⟨e1, e2⟩ := numAt_uniq h1 g1
  injection e2 with _ e2
  subst e2
  obtain ⟨e3, e4⟩ := numAt_uniq h2 g2
  exact ⟨(pr_eq p q).2 ⟨e1, e3⟩, e4⟩
theorem numAt_len {s : List UInt8} {v : Int} {t : List UInt8} (h : NumAt s v t) : t.length < s.length := by
  obtain ⟨_, h, _⟩ := h
  have := List.length_pos_iff.2 (itoa_ne v)
  rw [h, List.length_append]
  omega
theorem pairAt_len {s : List UInt8} {p : Pr} {t : List UInt8} (h : PairAt s p t) : t.length < s.length := by
  obtain ⟨u, h1, h2⟩ := h
  have a := numAt_len h1
  have b := numAt_len h2
  rw [List.length_cons] at a
  omega
theorem numAt_head {s : List UInt8} {v : Int} {t : List UInt8} (h : NumAt s v t) : ∃ c r, s = c :: r ∧ (c = 45 ∨ dg c = true) := by
  obtain ⟨_, h, _⟩ := h
  by_cases hv : v < 0
  · rw [itoa_neg hv] at h
    exact ⟨45, _, h, .inl rfl⟩
  · rw [itoa_nonneg hv] at h
    cases hd : Lib.decDigits v.toNat with
    | nil => exact absurd hd (decDigits_ne _)
    | cons c r =>
      rw [hd] at h
      exact ⟨c, _, h, .inr (dec_dg _ c (by rw [hd]; simp))⟩
theorem prsAt_124 {b : Bool} {s : List UInt8} {ps : List Pr} {t : List UInt8} (h : PrsAt b (124 :: s) ps t) : ps = [] ∧ 124 :: s = t := by
  cases ps with
  | nil => exact ⟨rfl, by cases b <;> exact h⟩
  | cons p r =>
    cases b with
    | true =>
      obtain ⟨u, ⟨w, h1, _⟩, _⟩ := h
      obtain ⟨c, q, e, hc⟩ := numAt_head h1
      injection e with e _
      subst e
      exact absurd hc (by decide)
    | false =>
      obtain ⟨w, u, e, _⟩ := h
      injection e with e _
      exact absurd e (by decide)
theorem pair_spec (s : List UInt8) (hs : s.length ≤ 1000000) (left : Int) (x : Lf) (id : Nat) (M : Mem) (hM : M id = some (rdB s left x)) :
    XCalls Go.Proofs.Tryd.prog 57 [.l (.ptr id 0 0)] M fun r M' => ∃ s', s'.length ≤ s.length ∧ M' = M.set id (rdB s' left x) ∧
      ((∃ p, PairAt s p s' ∧ r = .tup [.agg p.row, .l (.bool true)]) ∨ ((∀ p t, ¬ PairAt s p t) ∧ ∃ p : Pr, r = .tup [.agg p.row, .l (.bool false)])) := by
  refine xcalls_intro (rs := [.cell 2 79, .tmp 3]) Go.Proofs.Tryd.func57 rfl (by kernel_rfl) rfl rfl (by kernel_rfl) (by simp) ?_
  simp -implicitDefEqProofs (maxSteps := 1000000) (disch := omega) only [↓xsP, ↓vc_seq, xsQ, xsT, xsR, xsD, ↓reduceIte, reduceCtorEq, eq_self, ne_eq, imp_self, forall_const, Nat.reduceEqDiff, Nat.reduceAdd, Nat.reduceSub, Nat.reduceMul, Nat.reduceLT, Nat.reduceLeDiff, Nat.reduceBEq, Nat.reduceDiv, Nat.reduceMod, Int.reduceToNat, Int.reduceNeg, Int.reduceAdd, Int.reduceSub, Int.reduceMul, Int.reduceEq, Int.reduceNe, Int.reduceLT, Int.reduceLE, Int.reduceGT, Int.reduceGE]
  refine newI_intro fun id2 hid2 => ?_
  have k2 := lt_of_bnd hid2 hM
  obtain ⟨N, eN, hN2, hNi, hK⟩ : ∃ N, N = M.set id2 (.cells 79 [[.int .i64 0, .int .i64 0]] 0) ∧ N id2 = some (.cells 79 [[.int .i64 0, .int .i64 0]] 0) ∧ N id = some (rdB s left x) ∧ ∀ k bk, M k = some bk → k ≠ id → N k = some bk := ⟨_, rfl, Mem.set_eq _ _ _, by rw [Mem.set_ne _ _ _ _ (by omega)]; exact hM, fun k bk hk _ => le_new (Mem.le_refl _) hid2 _ _ hk⟩
  simp -implicitDefEqProofs (maxSteps := 1000000) (disch := omega) only [↓xsP, ↓vc_seq, xsQ, xsT, xsR, xsD, ↓reduceIte, reduceCtorEq, eq_self, ne_eq, imp_self, forall_const, Nat.reduceEqDiff, Nat.reduceAdd, Nat.reduceSub, Nat.reduceMul, Nat.reduceLT, Nat.reduceLeDiff, Nat.reduceBEq, Nat.reduceDiv, Nat.reduceMod, Int.reduceToNat, Int.reduceNeg, Int.reduceAdd, Int.reduceSub, Int.reduceMul, Int.reduceEq, Int.reduceNe, Int.reduceLT, Int.reduceLE, Int.reduceGT, Int.reduceGE]
  rw [← eN]
  clear eN
  have hne2 : id2 ≠ id := by omega
  have hM2 : M id2 = none := hid2 _ (Nat.le_refl _)
  clear hid2
  refine callI_of ((number_spec s hs left x id _ hNi).mono ?_)
  have hd1 : (s.drop (tok s).length).length ≤ s.length := by rw [List.length_drop]; omega
  obtain ⟨s1, hs1⟩ : ∃ s1, s.drop (tok s).length = s1 := ⟨_, rfl⟩
  rw [hs1] at hd1 ⊢
  have key : ∀ (N : Mem) (X Y Z : Blk), (∀ k bk, M k = some bk → k ≠ id → N k = some bk) → ∃ N', N' = ((N.set id X).set id2 Y) ∧ N' id = some X ∧ N' id2 = some Y ∧ ∀ k bk, M k = some bk → k ≠ id → N' k = some bk := fun N X Y Z h => by
    refine ⟨_, rfl, by rw [Mem.set_ne _ _ _ _ hne2, Mem.set_eq], Mem.set_eq _ _ _, fun k bk hk hne => ?_⟩
    rw [Mem.set_ne _ _ _ _ (fun e => by rw [← e, hM2] at hk; cases hk), Mem.set_ne _ _ _ _ (Ne.symm hne)]
    exact h _ _ hk hne
  have key1 : ∀ (N : Mem) (X : Blk) {Y : Blk}, N id2 = some Y → (∀ k bk, M k = some bk → k ≠ id → N k = some bk) → ∃ N', N' = (N.set id X) ∧ N' id = some X ∧ N' id2 = some Y ∧ ∀ k bk, M k = some bk → k ≠ id → N' k = some bk := fun N X Y hY h => by
    refine ⟨_, rfl, Mem.set_eq _ _ _, by rw [Mem.set_ne _ _ _ _ (Ne.symm hne2)]; exact hY, fun k bk hk hne => ?_⟩
    rw [Mem.set_ne _ _ _ _ (Ne.symm hne)]
    exact h _ _ hk hne
  have hfin : ∀ (N : Mem) (X : Blk), N id = some X → (∀ k bk, M k = some bk → k ≠ id → N k = some bk) → (M.set id X).le N := fun N X h1 h2 k bk hk => by
    rw [Mem.set_app] at hk
    split at hk
    · rename_i e
      rw [← e, h1]
      exact hk
    · rename_i e
      exact h2 _ _ hk (Ne.symm e)
  rintro _ _ ⟨rfl, ⟨v, hv, rfl⟩ | ⟨hno, n, rfl⟩⟩
  · obtain ⟨N1, eN1, hN1, hN12, hK1⟩ := key N (rdB s1 left x) (.cells 79 [[.int .i64 v, .int .i64 0]] 0) (.map []) hK
    simp -implicitDefEqProofs (maxSteps := 1000000) (disch := omega) only [↓xsP, ↓vc_seq, xsQ, xsT, xsR, xsD, ↓reduceIte, reduceCtorEq, eq_self, ne_eq, imp_self, forall_const, Nat.reduceEqDiff, Nat.reduceAdd, Nat.reduceSub, Nat.reduceMul, Nat.reduceLT, Nat.reduceLeDiff, Nat.reduceBEq, Nat.reduceDiv, Nat.reduceMod, Int.reduceToNat, Int.reduceNeg, Int.reduceAdd, Int.reduceSub, Int.reduceMul, Int.reduceEq, Int.reduceNe, Int.reduceLT, Int.reduceLE, Int.reduceGT, Int.reduceGE, hN2]
    rw [← eN1]
    clear eN1
    refine callI_of ((sign_spec s1 left x 58 id _ hN1).mono ?_)
    rintro _ _ ⟨rfl, rfl⟩
    obtain ⟨N2, eN2, hN2i, hN22, hK2⟩ := key1 N1 (rdB (cutc 58 s1) left x) hN12 hK1
    rw [← eN2]
    clear eN2
    have hcl : (cutc 58 s1).length ≤ s1.length := by
      rw [cutc]
      split
      · rw [List.length_tail]; omega
      · exact Nat.le_refl _
    by_cases h58 : s1.head? = some 58
    · rw [decide_eq_true h58]
      have hs58 : s1 = 58 :: cutc 58 s1 := by
        rw [cutc, if_pos h58]
        cases s1 with
        | nil => cases h58
        | cons c r =>
          simp only [List.head?_cons, Option.some.injEq] at h58
          rw [h58]
          rfl
      simp -implicitDefEqProofs (maxSteps := 1000000) (disch := omega) only [↓xsP, ↓vc_seq, xsQ, xsT, xsR, xsD, ↓reduceIte, reduceCtorEq, eq_self, ne_eq, imp_self, forall_const, Nat.reduceEqDiff, Nat.reduceAdd, Nat.reduceSub, Nat.reduceMul, Nat.reduceLT, Nat.reduceLeDiff, Nat.reduceBEq, Nat.reduceDiv, Nat.reduceMod, Int.reduceToNat, Int.reduceNeg, Int.reduceAdd, Int.reduceSub, Int.reduceMul, Int.reduceEq, Int.reduceNe, Int.reduceLT, Int.reduceLE, Int.reduceGT, Int.reduceGE]
      refine callI_of ((number_spec (cutc 58 s1) (by omega) left x id _ hN2i).mono ?_)
      have hd2 : ((cutc 58 s1).drop (tok (cutc 58 s1)).length).length ≤ (cutc 58 s1).length := by rw [List.length_drop]; omega
      obtain ⟨s2, hs2⟩ : ∃ s2, (cutc 58 s1).drop (tok (cutc 58 s1)).length = s2 := ⟨_, rfl⟩
      rw [hs2] at hd2 ⊢
      rintro _ _ ⟨rfl, ⟨v2, hv2, rfl⟩ | ⟨hno, n, rfl⟩⟩
      · obtain ⟨N3, eN3, hN3, hN32, hK3⟩ := key N2 (rdB s2 left x) (.cells 79 [[.int .i64 v, .int .i64 v2]] 0) (.map []) hK2
        simp -implicitDefEqProofs (maxSteps := 1000000) (disch := omega) only [↓xsP, ↓vc_seq, xsQ, xsT, xsR, xsD, ↓reduceIte, reduceCtorEq, eq_self, ne_eq, imp_self, forall_const, Nat.reduceEqDiff, Nat.reduceAdd, Nat.reduceSub, Nat.reduceMul, Nat.reduceLT, Nat.reduceLeDiff, Nat.reduceBEq, Nat.reduceDiv, Nat.reduceMod, Int.reduceToNat, Int.reduceNeg, Int.reduceAdd, Int.reduceSub, Int.reduceMul, Int.reduceEq, Int.reduceNe, Int.reduceLT, Int.reduceLE, Int.reduceGT, Int.reduceGE, hN22]
        rw [← eN3]
        clear eN3
        exact fin_ok (hfin _ _ hN3 hK3) ⟨s2, by omega, rfl, .inl ⟨⟨v, v2⟩, ⟨cutc 58 s1, by rw [← hs58]; exact hv, hv2⟩, rfl⟩⟩
      · obtain ⟨N3, eN3, hN3, hN32, hK3⟩ := key N2 (rdB s2 left x) (.cells 79 [[.int .i64 v, .int .i64 n]] 0) (.map []) hK2
        simp -implicitDefEqProofs (maxSteps := 1000000) (disch := omega) only [↓xsP, ↓vc_seq, xsQ, xsT, xsR, xsD, ↓reduceIte, reduceCtorEq, eq_self, ne_eq, imp_self, forall_const, Nat.reduceEqDiff, Nat.reduceAdd, Nat.reduceSub, Nat.reduceMul, Nat.reduceLT, Nat.reduceLeDiff, Nat.reduceBEq, Nat.reduceDiv, Nat.reduceMod, Int.reduceToNat, Int.reduceNeg, Int.reduceAdd, Int.reduceSub, Int.reduceMul, Int.reduceEq, Int.reduceNe, Int.reduceLT, Int.reduceLE, Int.reduceGT, Int.reduceGE, hN22]
        rw [← eN3]
        refine fin_ok (hfin _ _ hN3 hK3) ⟨s2, by omega, rfl, .inr ⟨fun p t ⟨u, g1, g2⟩ => ?_, ⟨v, n⟩, rfl⟩⟩
        have := (numAt_uniq g1 hv).2
        rw [hs58] at this
        injection this with _ this
        rw [this] at g2
        exact hno _ _ g2
    · rw [decide_eq_false h58]
      simp -implicitDefEqProofs (maxSteps := 1000000) (disch := omega) only [↓xsP, ↓vc_seq, xsQ, xsT, xsR, xsD, ↓reduceIte, reduceCtorEq, eq_self, ne_eq, imp_self, forall_const, Nat.reduceEqDiff, Nat.reduceAdd, Nat.reduceSub, Nat.reduceMul, Nat.reduceLT, Nat.reduceLeDiff, Nat.reduceBEq, Nat.reduceDiv, Nat.reduceMod, Int.reduceToNat, Int.reduceNeg, Int.reduceAdd, Int.reduceSub, Int.reduceMul, Int.reduceEq, Int.reduceNe, Int.reduceLT, Int.reduceLE, Int.reduceGT, Int.reduceGE, hN22]
      refine fin_ok (M' := M.set id (rdB (cutc 58 s1) left x)) (fun k bk hk => ?_) ⟨cutc 58 s1, by omega, rfl, .inr ⟨fun p t ⟨u, g1, g2⟩ => ?_, ⟨v, 0⟩, rfl⟩⟩
      · have h2 := hfin _ _ hN2i hK2 _ _ hk
        rw [Mem.set_ne _ _ _ _ (fun e => ?_)]
        · exact h2
        · rw [Mem.set_app] at hk
          split at hk
          · rename_i e2
            omega
          · rw [← e, hM2] at hk
            cases hk
      · have := (numAt_uniq g1 hv).2
        rw [← this] at h58
        exact h58 rfl
  · obtain ⟨N1, eN1, hN1, hN12, hK1⟩ := key N (rdB s1 left x) (.cells 79 [[.int .i64 n, .int .i64 0]] 0) (.map []) hK
    simp -implicitDefEqProofs (maxSteps := 1000000) (disch := omega) only [↓xsP, ↓vc_seq, xsQ, xsT, xsR, xsD, ↓reduceIte, reduceCtorEq, eq_self, ne_eq, imp_self, forall_const, Nat.reduceEqDiff, Nat.reduceAdd, Nat.reduceSub, Nat.reduceMul, Nat.reduceLT, Nat.reduceLeDiff, Nat.reduceBEq, Nat.reduceDiv, Nat.reduceMod, Int.reduceToNat, Int.reduceNeg, Int.reduceAdd, Int.reduceSub, Int.reduceMul, Int.reduceEq, Int.reduceNe, Int.reduceLT, Int.reduceLE, Int.reduceGT, Int.reduceGE, hN2]
    rw [← eN1]
    exact fin_ok (hfin _ _ hN1 hK1) ⟨s1, hd1, rfl, .inr ⟨fun p t ⟨u, g1, g2⟩ => hno _ _ g1, ⟨n, 0⟩, rfl⟩⟩
def LeafAt (s : List UInt8) (ps : List Pr) (st : Int) (t : List UInt8) : Prop := ∃ u, PrsAt true s ps (124 :: u) ∧ NumAt u st (93 :: t)
/-- So far ps have been read, and s is left. -/
def LInv (s0 : List UInt8) (ps : List Pr) (s : List UInt8) : Prop := ∀ qs t, PrsAt true s0 qs (124 :: t) ↔ ∃ rs, qs = ps ++ rs ∧ PrsAt (decide (ps = [])) s rs (124 :: t)
theorem LInv.start (s : List UInt8) : LInv s [] s := fun qs t => by simp
theorem LInv.done {s0 : List UInt8} {ps : List Pr} {u : List UInt8} (h : LInv s0 ps (124 :: u)) {qs : List Pr} {t : List UInt8} : PrsAt true s0 qs (124 :: t) ↔ qs = ps ∧ t = u := by
  rw [h qs t]
  constructor
  · rintro ⟨rs, rfl, h2⟩
    obtain ⟨rfl, e⟩ := prsAt_124 h2
    injection e with _ e
    exact ⟨List.append_nil _, e.symm⟩
  · rintro ⟨rfl, rfl⟩
    refine ⟨[], (List.append_nil _).symm, ?_⟩
    cases (decide (qs = [])) <;> rfl
theorem prsAt_ne {b : Bool} {s : List UInt8} {rs : List Pr} {t : List UInt8} (hs : s.head? ≠ some 124) (h : PrsAt b s rs (124 :: t)) : ∃ p r, rs = p :: r := by
  cases rs with
  | nil =>
    have : s = 124 :: t := by cases b <;> exact h
    rw [this] at hs
    exact absurd rfl hs
  | cons p r => exact ⟨p, r, rfl⟩
/-- The next pair is read. -/
theorem LInv.step {s0 : List UInt8} {ps : List Pr} {s w u : List UInt8} {p : Pr} (h : LInv s0 ps s) (hs : s.head? ≠ some 124) (hw : if ps = [] then w = s else s = 44 :: w) (hp : PairAt w p u) : LInv s0 (ps ++ [p]) u := fun qs t => by
  rw [h qs t]
  constructor
  · rintro ⟨rs, rfl, h2⟩
    obtain ⟨q, r, rfl⟩ := prsAt_ne hs h2
    by_cases e : ps = []
    · rw [if_pos e] at hw
      rw [decide_eq_true e] at h2
      obtain ⟨u', g1, g2⟩ := h2
      rw [hw] at hp
      obtain ⟨rfl, rfl⟩ := pairAt_uniq g1 hp
      exact ⟨r, by simp, by rw [decide_eq_false (by simp)]; exact g2⟩
    · rw [if_neg e] at hw
      rw [decide_eq_false e] at h2
      obtain ⟨w', u', g0, g1, g2⟩ := h2
      rw [hw] at g0
      injection g0 with _ g0
      subst g0
      obtain ⟨rfl, rfl⟩ := pairAt_uniq g1 hp
      exact ⟨r, by simp, by rw [decide_eq_false (by simp)]; exact g2⟩
  · rintro ⟨rs, rfl, h2⟩
    rw [decide_eq_false (by simp)] at h2
    refine ⟨p :: rs, by simp, ?_⟩
    by_cases e : ps = []
    · rw [if_pos e] at hw
      rw [decide_eq_true e]
      exact ⟨u, by rw [← hw]; exact hp, h2⟩
    · rw [if_neg e] at hw
      rw [decide_eq_false e]
      exact ⟨w, u, hw, hp, h2⟩
theorem LInv.none {s0 : List UInt8} {ps : List Pr} {s : List UInt8} (h : LInv s0 ps s) (hs : s.head? ≠ some 124) (hno : ∀ w p u, (if ps = [] then w = s else s = 44 :: w) → ¬ PairAt w p u) : ∀ qs st t, ¬ LeafAt s0 qs st t := fun qs st t ⟨u, h1, _⟩ => by
  obtain ⟨rs, -, h2⟩ := (h qs u).1 h1
  obtain ⟨q, r, rfl⟩ := prsAt_ne hs h2
  by_cases e : ps = []
  · rw [decide_eq_true e] at h2
    obtain ⟨u', g1, g2⟩ := h2
    exact hno s q u' (by rw [if_pos e]) g1
  · rw [decide_eq_false e] at h2
    obtain ⟨w', u', g0, g1, g2⟩ := h2
    exact hno w' q u' (by rw [if_neg e]; exact g0) g1
end Go.X
set_option linter.unusedVariables false
set_option linter.unusedSimpArgs false
set_option maxHeartbeats 20000000
set_option maxRecDepth 100000
namespace Go.X
open Go.Proofs.Tryd (prog)

theorem leaf_fin {N N0 M' : Mem} {xp : Lf} {ps : List Pr} {st : Int} {b : Bool} {K : AV → Mem → Prop} (hsb : SB 79 N xp (ps.map Pr.row) N0) (hle : M'.le N0) (h : K (.tup [.agg (leafN ps st).row, .l (.bool b)]) M') :
    @finI Go.Proofs.Tryd.prog (.tup [.agg [.bool false, .int .i64 0, .int .i64 0, .int .i64 0, xp, .int .i64 st], .l (.bool b)]) N ⟨K⟩ := by
  generalize hr : ps.map Pr.row = rows at hsb
  cases hsb with
  | nil =>
    have : ps = [] := List.map_eq_nil_iff.1 hr
    subst this
    exact finI_of (XFin.wk (XFin.le hle h))
  | @ms idp _ hM =>
    refine finI_of (XFin.frz idp hM (XFin.le (M' := M') (fun k bk hk => ?_) ?_))
    · have := hle _ _ hk
      rw [Mem.del_app] at this
      split at this
      · cases this
      · rename_i e
        rw [Mem.set_ne _ _ _ _ e]
        exact this
    · simp only [frzA, frz1, frzL, List.map_cons, List.map_nil, Nat.zero_add, Nat.le_refl, and_self, if_true, List.drop_zero, List.take_of_length_le]
      rw [← hr]
      exact h
theorem cutc_len (c : UInt8) (s : List UInt8) : (cutc c s).length ≤ s.length := by
  rw [cutc]
  split
  · rw [List.length_tail]; omega
  · exact Nat.le_refl _
theorem cutc_eq {c : UInt8} {s : List UInt8} (h : s.head? = some c) : s = c :: cutc c s := by
  rw [cutc, if_pos h]
  cases s with
  | nil => cases h
  | cons d r =>
    simp only [List.head?_cons, Option.some.injEq] at h
    rw [h]
    rfl
theorem cutc_no {c : UInt8} {s : List UInt8} (h : s.head? ≠ some c) : cutc c s = s := by rw [cutc, if_neg h]
theorem le_upd {M N : Mem} {id : Nat} {X : Blk} (h1 : N id = some X) (h2 : ∀ k bk, M k = some bk → k ≠ id → N k = some bk) : (M.set id X).le N := fun k bk hk => by
  rw [Mem.set_app] at hk
  split at hk
  · rename_i e
    rw [← e, h1]
    exact hk
  · rename_i e
    exact h2 _ _ hk (Ne.symm e)
/-- What a leaf that is being read stands as. -/
structure LSt (M N N0 : Mem) (id id2 : Nat) (xp : Lf) (ps : List Pr) (s : List UInt8) (left : Int) (x : Lf) : Prop where
  own : N id = some (rdB s left x)
  nod : N id2 = some (.cells 46 [[.bool false, .int .i64 0, .int .i64 0, .int .i64 0, xp, .int .i64 0]] 0)
  sb : SB 79 N xp (ps.map Pr.row) N0
  kept : ∀ k bk, M k = some bk → k ≠ id → N0 k = some bk
  own0 : N0 id = some (rdB s left x)
theorem LSt.set {M N N0 : Mem} {id id2 : Nat} {xp : Lf} {ps : List Pr} {s : List UInt8} {left : Int} {x : Lf} (h : LSt M N N0 id id2 xp ps s left x) (hne : id2 ≠ id) (s' : List UInt8) : LSt M (N.set id (rdB s' left x)) (N0.set id (rdB s' left x)) id id2 xp ps s' left x := by
  obtain ⟨h1, h2, h3, h4, h5⟩ := h
  refine ⟨Mem.set_eq _ _ _, by rw [Mem.set_ne _ _ _ _ (Ne.symm hne)]; exact h2, ?_, fun k bk hk hk' => by rw [Mem.set_ne _ _ _ _ (Ne.symm hk')]; exact h4 _ _ hk hk', Mem.set_eq _ _ _⟩
  generalize ps.map Pr.row = rows at h3
  cases h3 with
  | nil => exact .nil
  | @ms idp _ hM =>
    have hn : idp ≠ id := fun e => by rw [e, h1] at hM; cases hM
    have e : (N.set id (rdB s' left x)).del idp = (N.del idp).set id (rdB s' left x) := by
      funext k
      simp only [Mem.set_app, Mem.del_app]
      by_cases a : idp = k
      · rw [if_pos a, if_neg (by omega), if_pos a]
      · rw [if_neg a, if_neg a]
    rw [← e]
    exact .ms (by rw [Mem.set_ne _ _ _ _ (Ne.symm hn)]; exact hM)
theorem LSt.new {M N N0 : Mem} {id id2 : Nat} {xp : Lf} {ps : List Pr} {s : List UInt8} {left : Int} {x : Lf} (h : LSt M N N0 id id2 xp ps s left x) {i : Nat} (hi : ∀ j, i ≤ j → N j = none) (X : Blk) : LSt M (N.set i X) (N0.set i X) id id2 xp ps s left x := by
  obtain ⟨h1, h2, h3, h4, h5⟩ := h
  have k1 := lt_of_bnd hi h1
  have k2 := lt_of_bnd hi h2
  refine ⟨by rw [Mem.set_ne _ _ _ _ (by omega)]; exact h1, by rw [Mem.set_ne _ _ _ _ (by omega)]; exact h2, h3.set hi X, fun k bk hk hk' => ?_, by rw [Mem.set_ne _ _ _ _ (by omega)]; exact h5⟩
  have h6 := h4 _ _ hk hk'
  have := lt_of_bnd hi (h3.le _ _ h6)
  rw [Mem.set_ne _ _ _ _ (by omega)]
  exact h6
theorem SB.other {T : TypeId} {M M0 : Mem} {x : Lf} {l : List (List Lf)} (h : SB T M x l M0) {i T' k' : Nat} {rs' : List (List Lf)} (hi : M i = some (.cells T' rs' k')) (hT : T ≠ T') (X : Blk) : SB T (M.set i X) x l (M0.set i X) := by
  cases h with
  | nil => exact .nil
  | @ms id rows h =>
    have hne : id ≠ i := fun e => by
      rw [e, hi] at h
      injection h with h
      injection h with h
      exact hT h.symm
    have e : (M.set i X).del id = (M.del id).set i X := by
      funext k
      simp only [Mem.set_app, Mem.del_app]
      by_cases a : id = k
      · rw [if_pos a, if_neg (by omega), if_pos a]
      · rw [if_neg a, if_neg a]
    rw [← e]
    exact .ms (by rw [Mem.set_ne _ _ _ _ (Ne.symm hne)]; exact h)
theorem LSt.put {M N N0 : Mem} {id id2 : Nat} {xp : Lf} {ps : List Pr} {s : List UInt8} {left : Int} {x : Lf} (h : LSt M N N0 id id2 xp ps s left x) (hM2 : M id2 = none) (hne : id2 ≠ id) (Y : Blk) : SB 79 (N.set id2 Y) xp (ps.map Pr.row) (N0.set id2 Y) ∧ (N.set id2 Y) id = some (rdB s left x) ∧ (N0.set id2 Y) id = some (rdB s left x) ∧ ∀ k bk, M k = some bk → k ≠ id → (N0.set id2 Y) k = some bk := by
  refine ⟨h.sb.other h.nod (by decide) Y, by rw [Mem.set_ne _ _ _ _ hne]; exact h.own, by rw [Mem.set_ne _ _ _ _ hne]; exact h.own0, fun k bk hk hk' => ?_⟩
  rw [Mem.set_ne _ _ _ _ (fun e => by rw [← e, hM2] at hk; cases hk)]
  exact h.kept _ _ hk hk'
theorem leaf_spec (s : List UInt8) (hs : s.length ≤ 1000000) (left : Int) (x : Lf) (id : Nat) (M : Mem) (hM : M id = some (rdB s left x)) :
    XCalls Go.Proofs.Tryd.prog 41 [.l (.ptr id 0 0)] M fun r M' => ∃ s', s'.length ≤ s.length ∧ M' = M.set id (rdB s' left x) ∧
      ((∃ ps st, LeafAt s ps st s' ∧ r = .tup [.agg (leafN ps st).row, .l (.bool true)]) ∨ ((∀ ps st t, ¬ LeafAt s ps st t) ∧ ∃ n : Nd, r = .tup [.agg n.row, .l (.bool false)])) := by
  refine xcalls_intro (rs := [.cell 2 46, .tmp 3]) Go.Proofs.Tryd.func41 rfl (by kernel_rfl) rfl rfl (by kernel_rfl) (by simp) ?_
  simp -implicitDefEqProofs (maxSteps := 1000000) (disch := omega) only [↓xsP, ↓vc_seq, xsQ, xsT, xsR, xsD, ↓reduceIte, reduceCtorEq, eq_self, ne_eq, imp_self, forall_const, Nat.reduceEqDiff, Nat.reduceAdd, Nat.reduceSub, Nat.reduceMul, Nat.reduceLT, Nat.reduceLeDiff, Nat.reduceBEq, Nat.reduceDiv, Nat.reduceMod, Int.reduceToNat, Int.reduceNeg, Int.reduceAdd, Int.reduceSub, Int.reduceMul, Int.reduceEq, Int.reduceNe, Int.reduceLT, Int.reduceLE, Int.reduceGT, Int.reduceGE]
  refine newI_intro fun id2 hid2 => ?_
  have k2 := lt_of_bnd hid2 hM
  have hM2 : M id2 = none := hid2 _ (Nat.le_refl _)
  have hne2 : id2 ≠ id := by omega
  simp -implicitDefEqProofs (maxSteps := 1000000) (disch := omega) only [↓xsP, ↓vc_seq, xsQ, xsT, xsR, xsD, ↓reduceIte, reduceCtorEq, eq_self, ne_eq, imp_self, forall_const, Nat.reduceEqDiff, Nat.reduceAdd, Nat.reduceSub, Nat.reduceMul, Nat.reduceLT, Nat.reduceLeDiff, Nat.reduceBEq, Nat.reduceDiv, Nat.reduceMod, Int.reduceToNat, Int.reduceNeg, Int.reduceAdd, Int.reduceSub, Int.reduceMul, Int.reduceEq, Int.reduceNe, Int.reduceLT, Int.reduceLE, Int.reduceGT, Int.reduceGE]
  refine loopI_of (xloop (by kernel_rfl) (fun k fr N => ∃ (xp : Lf) (ps : List Pr) (s' : List UInt8) (N0 : Mem), s'.length ≤ s.length ∧ ps.length + s'.length ≤ s.length ∧ k = s'.length ∧ LInv s ps s' ∧ LSt M N N0 id id2 xp ps s' left x ∧ fr 0 = .l (.ptr id 0 0) ∧ fr 2 = .l (.ptr id2 0 0)) s.length ?_ ?_)
  · refine ⟨.nils, [], s, _, Nat.le_refl _, by simp, rfl, LInv.start s, ⟨?_, Mem.set_eq _ _ _, .nil, fun k bk hk _ => le_new (Mem.le_refl _) hid2 _ _ hk, ?_⟩, by simp -implicitDefEqProofs (maxSteps := 1000000) (disch := omega) only [↓xsP, ↓vc_seq, xsQ, xsT, xsR, xsD, ↓reduceIte, reduceCtorEq, eq_self, ne_eq, imp_self, forall_const, Nat.reduceEqDiff, Nat.reduceAdd, Nat.reduceSub, Nat.reduceMul, Nat.reduceLT, Nat.reduceLeDiff, Nat.reduceBEq, Nat.reduceDiv, Nat.reduceMod, Int.reduceToNat, Int.reduceNeg, Int.reduceAdd, Int.reduceSub, Int.reduceMul, Int.reduceEq, Int.reduceNe, Int.reduceLT, Int.reduceLE, Int.reduceGT, Int.reduceGE], by simp -implicitDefEqProofs (maxSteps := 1000000) (disch := omega) only [↓xsP, ↓vc_seq, xsQ, xsT, xsR, xsD, ↓reduceIte, reduceCtorEq, eq_self, ne_eq, imp_self, forall_const, Nat.reduceEqDiff, Nat.reduceAdd, Nat.reduceSub, Nat.reduceMul, Nat.reduceLT, Nat.reduceLeDiff, Nat.reduceBEq, Nat.reduceDiv, Nat.reduceMod, Int.reduceToNat, Int.reduceNeg, Int.reduceAdd, Int.reduceSub, Int.reduceMul, Int.reduceEq, Int.reduceNe, Int.reduceLT, Int.reduceLE, Int.reduceGT, Int.reduceGE]⟩
    · rw [Mem.set_ne _ _ _ _ (by omega)]; exact hM
    · rw [Mem.set_ne _ _ _ _ (by omega)]; exact hM
  rintro k fr N ⟨xp, ps, s1, N0, hs1, hps1, rfl, hI, hL, f0, f2⟩
  simp -implicitDefEqProofs (maxSteps := 1000000) (disch := omega) only [↓xsP, ↓vc_seq, xsQ, xsT, xsR, xsD, ↓reduceIte, reduceCtorEq, eq_self, ne_eq, imp_self, forall_const, Nat.reduceEqDiff, Nat.reduceAdd, Nat.reduceSub, Nat.reduceMul, Nat.reduceLT, Nat.reduceLeDiff, Nat.reduceBEq, Nat.reduceDiv, Nat.reduceMod, Int.reduceToNat, Int.reduceNeg, Int.reduceAdd, Int.reduceSub, Int.reduceMul, Int.reduceEq, Int.reduceNe, Int.reduceLT, Int.reduceLE, Int.reduceGT, Int.reduceGE, f0, f2]
  refine callI_of ((sign_spec s1 left x 124 id _ hL.own).mono ?_)
  rintro _ _ ⟨rfl, rfl⟩
  have hL1 := hL.set hne2 (cutc 124 s1)
  have hcl := cutc_len 124 s1
  generalize N.set id (rdB (cutc 124 s1) left x) = N1 at hL1 ⊢
  generalize N0.set id (rdB (cutc 124 s1) left x) = N10 at hL1
  by_cases h124 : s1.head? = some 124
  · rw [decide_eq_true h124]
    have hs12 := cutc_eq h124
    obtain ⟨s2, hs2⟩ : ∃ s2, cutc 124 s1 = s2 := ⟨_, rfl⟩
    rw [hs2] at hL1 hs12 hcl
    rw [hs12] at hI
    simp -implicitDefEqProofs (maxSteps := 1000000) (disch := omega) only [↓xsP, ↓vc_seq, xsQ, xsT, xsR, xsD, ↓reduceIte, reduceCtorEq, eq_self, ne_eq, imp_self, forall_const, Nat.reduceEqDiff, Nat.reduceAdd, Nat.reduceSub, Nat.reduceMul, Nat.reduceLT, Nat.reduceLeDiff, Nat.reduceBEq, Nat.reduceDiv, Nat.reduceMod, Int.reduceToNat, Int.reduceNeg, Int.reduceAdd, Int.reduceSub, Int.reduceMul, Int.reduceEq, Int.reduceNe, Int.reduceLT, Int.reduceLE, Int.reduceGT, Int.reduceGE, f0, f2]
    refine callI_of ((number_spec s2 (by omega) left x id _ hL1.own).mono ?_)
    have hd1 : (s2.drop (tok s2).length).length ≤ s2.length := by rw [List.length_drop]; omega
    obtain ⟨s3, hs3⟩ : ∃ s3, s2.drop (tok s2).length = s3 := ⟨_, rfl⟩
    rw [hs3] at hd1 ⊢
    rintro _ _ ⟨rfl, h⟩
    have hL2 := hL1.set hne2 s3
    generalize N1.set id (rdB s3 left x) = N2 at hL2 ⊢
    generalize N10.set id (rdB s3 left x) = N20 at hL2
    have hN2 := hL2.nod
    rcases h with ⟨v, hv, rfl⟩ | ⟨hno, n, rfl⟩
    · simp -implicitDefEqProofs (maxSteps := 1000000) (disch := omega) only [↓xsP, ↓vc_seq, xsQ, xsT, xsR, xsD, ↓reduceIte, reduceCtorEq, eq_self, ne_eq, imp_self, forall_const, Nat.reduceEqDiff, Nat.reduceAdd, Nat.reduceSub, Nat.reduceMul, Nat.reduceLT, Nat.reduceLeDiff, Nat.reduceBEq, Nat.reduceDiv, Nat.reduceMod, Int.reduceToNat, Int.reduceNeg, Int.reduceAdd, Int.reduceSub, Int.reduceMul, Int.reduceEq, Int.reduceNe, Int.reduceLT, Int.reduceLE, Int.reduceGT, Int.reduceGE, f0, f2, hN2]
      obtain ⟨Y, hY⟩ : ∃ Y, Y = Blk.cells 46 [[.bool false, .int .i64 0, .int .i64 0, .int .i64 0, xp, .int .i64 v]] 0 := ⟨_, rfl⟩
      obtain ⟨g1, g2, g3, g4⟩ := hL2.put hM2 hne2 Y
      have g5 := Mem.set_eq N2 id2 Y
      rw [← hY]
      generalize N2.set id2 Y = N3 at g1 g2 g5 ⊢
      generalize N20.set id2 Y = N30 at g1 g3 g4
      rw [hY] at g5
      refine xwrite (fun n0 => [ (2, id), (3, id2)]) [2, 3] [] [[2], [], [], [], []] (by kernel_rfl) (by kernel_rfl) (by kernel_rfl) (by kernel_rfl) (fun n0 hn0 => ⟨rfl, ?_, ?_⟩)
      · exact TOk_cons (.inl (lt_of_bnd hn0 g2)) (TOk_cons (.inl (lt_of_bnd hn0 g5)) (TOk_nil _ _))
      have z5 := lt_of_bnd hn0 g5
      have z2 := lt_of_bnd hn0 g2
      simp -implicitDefEqProofs (maxSteps := 1000000) (disch := omega) only [↓xsP, ↓vc_seq, xsQ, xsT, xsR, xsD, ↓reduceIte, reduceCtorEq, eq_self, ne_eq, imp_self, forall_const, Nat.reduceEqDiff, Nat.reduceAdd, Nat.reduceSub, Nat.reduceMul, Nat.reduceLT, Nat.reduceLeDiff, Nat.reduceBEq, Nat.reduceDiv, Nat.reduceMod, Int.reduceToNat, Int.reduceNeg, Int.reduceAdd, Int.reduceSub, Int.reduceMul, Int.reduceEq, Int.reduceNe, Int.reduceLT, Int.reduceLE, Int.reduceGT, Int.reduceGE, f0, f2, g5]
      refine wcallI_eff (v := .l (.bool (decide (s3.head? = some 93)))) (e := [(id, some (rdB (cutc 93 s3) left x))]) (fun M' hle => (sign_spec s3 left x 93 id M' (hle _ _ g2)).mono ?_) ?_
      · rintro _ _ ⟨rfl, rfl⟩
        exact ⟨rfl, Mem.le_refl _⟩
      simp -implicitDefEqProofs (maxSteps := 1000000) (disch := omega) only [↓xsP, ↓vc_seq, xsQ, xsT, xsR, xsD, ↓reduceIte, reduceCtorEq, eq_self, ne_eq, imp_self, forall_const, Nat.reduceEqDiff, Nat.reduceAdd, Nat.reduceSub, Nat.reduceMul, Nat.reduceLT, Nat.reduceLeDiff, Nat.reduceBEq, Nat.reduceDiv, Nat.reduceMod, Int.reduceToNat, Int.reduceNeg, Int.reduceAdd, Int.reduceSub, Int.reduceMul, Int.reduceEq, Int.reduceNe, Int.reduceLT, Int.reduceLE, Int.reduceGT, Int.reduceGE, f0, f2, g5]
      rw [Mem.set_selfT (show (N3.set id (rdB (cutc 93 s3) left x)) id2 = some _ from by rw [Mem.set_ne _ _ _ _ (Ne.symm hne2)]; exact g5)]
      have hcl3 := cutc_len 93 s3
      have hle3 : (M.set id (rdB (cutc 93 s3) left x)).le (N30.set id (rdB (cutc 93 s3) left x)) := le_upd (Mem.set_eq _ _ _) fun k bk hk hk' => by
        rw [Mem.set_ne _ _ _ _ (Ne.symm hk')]
        exact g4 _ _ hk hk'
      refine leaf_fin (g1.other g2 (by decide) _) hle3 ⟨cutc 93 s3, by omega, rfl, ?_⟩
      by_cases h93 : s3.head? = some 93
      · rw [decide_eq_true h93]
        refine .inl ⟨ps, v, ⟨s2, (hI.done).2 ⟨rfl, rfl⟩, ?_⟩, rfl⟩
        rw [← cutc_eq h93]
        exact hv
      · rw [decide_eq_false h93]
        refine .inr ⟨fun qs st t ⟨u, h1, h2⟩ => ?_, leafN ps v, rfl⟩
        obtain ⟨-, rfl⟩ := hI.done.1 h1
        have := (numAt_uniq h2 hv).2
        rw [← this] at h93
        exact h93 rfl
    · simp -implicitDefEqProofs (maxSteps := 1000000) (disch := omega) only [↓xsP, ↓vc_seq, xsQ, xsT, xsR, xsD, ↓reduceIte, reduceCtorEq, eq_self, ne_eq, imp_self, forall_const, Nat.reduceEqDiff, Nat.reduceAdd, Nat.reduceSub, Nat.reduceMul, Nat.reduceLT, Nat.reduceLeDiff, Nat.reduceBEq, Nat.reduceDiv, Nat.reduceMod, Int.reduceToNat, Int.reduceNeg, Int.reduceAdd, Int.reduceSub, Int.reduceMul, Int.reduceEq, Int.reduceNe, Int.reduceLT, Int.reduceLE, Int.reduceGT, Int.reduceGE, f0, f2, hN2]
      obtain ⟨g1, g2, g3, g4⟩ := hL2.put hM2 hne2 (.cells 46 [[.bool false, .int .i64 0, .int .i64 0, .int .i64 0, xp, .int .i64 n]] 0)
      refine leaf_fin g1 (le_upd g3 g4) ⟨s3, by omega, rfl, .inr ⟨fun qs st t ⟨u, h1, h2⟩ => ?_, leafN ps n, rfl⟩⟩
      obtain ⟨-, rfl⟩ := hI.done.1 h1
      exact hno _ _ h2
  · rw [decide_eq_false h124]
    rw [cutc_no h124] at hL1
    have hN1 := hL1.nod
    have hln := hL1.sb.len ti_44 rfl
    rw [List.length_map] at hln
    simp only [lenA, ti_44] at hln
    simp -implicitDefEqProofs (maxSteps := 1000000) (disch := omega) only [↓xsP, ↓vc_seq, xsQ, xsT, xsR, xsD, ↓reduceIte, reduceCtorEq, eq_self, ne_eq, imp_self, forall_const, Nat.reduceEqDiff, Nat.reduceAdd, Nat.reduceSub, Nat.reduceMul, Nat.reduceLT, Nat.reduceLeDiff, Nat.reduceBEq, Nat.reduceDiv, Nat.reduceMod, Int.reduceToNat, Int.reduceNeg, Int.reduceAdd, Int.reduceSub, Int.reduceMul, Int.reduceEq, Int.reduceNe, Int.reduceLT, Int.reduceLE, Int.reduceGT, Int.reduceGE, f0, f2, hN1, hln]
    by_cases hp0 : ps = []
    · have w0 : decide ((ps.length : Int) > 0) = false := decide_eq_false (by rw [hp0]; decide)
      simp -implicitDefEqProofs (maxSteps := 1000000) (disch := omega) only [↓xsP, ↓vc_seq, xsQ, xsT, xsR, xsD, ↓reduceIte, reduceCtorEq, eq_self, ne_eq, imp_self, forall_const, Nat.reduceEqDiff, Nat.reduceAdd, Nat.reduceSub, Nat.reduceMul, Nat.reduceLT, Nat.reduceLeDiff, Nat.reduceBEq, Nat.reduceDiv, Nat.reduceMod, Int.reduceToNat, Int.reduceNeg, Int.reduceAdd, Int.reduceSub, Int.reduceMul, Int.reduceEq, Int.reduceNe, Int.reduceLT, Int.reduceLE, Int.reduceGT, Int.reduceGE, f0, f2, hN1, hln, w0]
      obtain ⟨sw, hw⟩ : ∃ sw, sw = s1 := ⟨_, rfl⟩
      have L := hL1
      rw [← hw] at L
      have hswl0 : sw.length ≤ s1.length := by rw [hw]; exact Nat.le_refl _
      obtain ⟨Nw, eNw⟩ : ∃ Nw, N1 = Nw := ⟨_, rfl⟩
      obtain ⟨Nw0, eNw0⟩ : ∃ Nw0, N10 = Nw0 := ⟨_, rfl⟩
      rw [eNw] at L ⊢
      rw [eNw0] at L
      clear hln hN1 hL hL1
      have hpl := L.own
      have hswl : sw.length ≤ s1.length := by omega
      refine callI_of ((pair_spec sw (by omega) left x id _ hpl).mono ?_)
      rintro _ _ ⟨s3, hs3, rfl, h⟩
      have L3 := L.set hne2 s3
      generalize Nw.set id (rdB s3 left x) = N3 at L3 ⊢
      generalize Nw0.set id (rdB s3 left x) = N30 at L3
      rcases h with ⟨p, hp, rfl⟩ | ⟨hno, p, rfl⟩
      · have hplen := pairAt_len hp
        simp -implicitDefEqProofs (maxSteps := 1000000) (disch := omega) only [↓xsP, ↓vc_seq, xsQ, xsT, xsR, xsD, ↓reduceIte, reduceCtorEq, eq_self, ne_eq, imp_self, forall_const, Nat.reduceEqDiff, Nat.reduceAdd, Nat.reduceSub, Nat.reduceMul, Nat.reduceLT, Nat.reduceLeDiff, Nat.reduceBEq, Nat.reduceDiv, Nat.reduceMod, Int.reduceToNat, Int.reduceNeg, Int.reduceAdd, Int.reduceSub, Int.reduceMul, Int.reduceEq, Int.reduceNe, Int.reduceLT, Int.reduceLE, Int.reduceGT, Int.reduceGE, f0, f2]
        refine newI_intro fun id4 hid4 => ?_
        have L4 := L3.new hid4 (.cells 79 [[.int .i64 p.key, .int .i64 p.val]] 0)
        have h44 := Mem.set_eq N3 id4 (.cells 79 [[.int .i64 p.key, .int .i64 p.val]] 0)
        have k42 := lt_of_bnd hid4 L3.nod
        simp -implicitDefEqProofs (maxSteps := 1000000) (disch := omega) only [↓xsP, ↓vc_seq, xsQ, xsT, xsR, xsD, ↓reduceIte, reduceCtorEq, eq_self, ne_eq, imp_self, forall_const, Nat.reduceEqDiff, Nat.reduceAdd, Nat.reduceSub, Nat.reduceMul, Nat.reduceLT, Nat.reduceLeDiff, Nat.reduceBEq, Nat.reduceDiv, Nat.reduceMod, Int.reduceToNat, Int.reduceNeg, Int.reduceAdd, Int.reduceSub, Int.reduceMul, Int.reduceEq, Int.reduceNe, Int.reduceLT, Int.reduceLE, Int.reduceGT, Int.reduceGE, f0, f2, L3.nod]
        refine newI_intro fun idp hidp => ?_
        have L5 := L4.new hidp (.cells 79 [[.int .i64 p.key, .int .i64 p.val]] 0)
        have kp2 := lt_of_bnd hidp L4.nod
        have kp4 := lt_of_bnd hidp h44
        simp -implicitDefEqProofs (maxSteps := 1000000) (disch := omega) only [↓xsP, ↓vc_seq, xsQ, xsT, xsR, xsD, ↓reduceIte, reduceCtorEq, eq_self, ne_eq, imp_self, forall_const, Nat.reduceEqDiff, Nat.reduceAdd, Nat.reduceSub, Nat.reduceMul, Nat.reduceLT, Nat.reduceLeDiff, Nat.reduceBEq, Nat.reduceDiv, Nat.reduceMod, Int.reduceToNat, Int.reduceNeg, Int.reduceAdd, Int.reduceSub, Int.reduceMul, Int.reduceEq, Int.reduceNe, Int.reduceLT, Int.reduceLE, Int.reduceGT, Int.reduceGE, f0, f2, L3.nod]
        obtain ⟨N5, eN5, hsrc⟩ : ∃ N5, N5 = (N3.set id4 (.cells 79 [[.int .i64 p.key, .int .i64 p.val]] 0)).set idp (.cells 79 [[.int .i64 p.key, .int .i64 p.val]] 0) ∧ N5 idp = some (.cells 79 [[.int .i64 p.key, .int .i64 p.val]] 0) := ⟨_, rfl, Mem.set_eq _ _ _⟩
        rw [← eN5] at L5 ⊢
        generalize (N30.set id4 (.cells 79 [[.int .i64 p.key, .int .i64 p.val]] 0)).set idp (.cells 79 [[.int .i64 p.key, .int .i64 p.val]] 0) = N50 at L5
        refine app_sb ti_44 rfl ti_79 (by kernel_rfl) (by decide) (by decide) L5.sb (bs := [p.row]) (by unfold srcRows; rw [if_pos rfl]; simp only [hsrc]; rfl) (by simp) (by rw [List.length_map]; simp only [List.length_cons, List.length_nil]; omega) (fun id7 hid7 => ?_)
        have k72 := lt_of_bnd hid7 L5.nod
        have k7i := lt_of_bnd hid7 L5.own
        have h502 : N50 id2 = some (.cells 46 [[.bool false, .int .i64 0, .int .i64 0, .int .i64 0, xp, .int .i64 0]] 0) := by
          have h1 := L5.sb
          have h2 := L5.nod
          generalize ps.map Pr.row = rows at h1
          cases h1 with
          | nil => exact h2
          | @ms idq _ hq =>
            rw [Mem.del_ne _ _ _ (fun e => by rw [e, h2] at hq; cases hq)]
            exact h2
        simp -implicitDefEqProofs (maxSteps := 1000000) (disch := omega) only [↓xsP, ↓vc_seq, xsQ, xsT, xsR, xsD, ↓reduceIte, reduceCtorEq, eq_self, ne_eq, imp_self, forall_const, Nat.reduceEqDiff, Nat.reduceAdd, Nat.reduceSub, Nat.reduceMul, Nat.reduceLT, Nat.reduceLeDiff, Nat.reduceBEq, Nat.reduceDiv, Nat.reduceMod, Int.reduceToNat, Int.reduceNeg, Int.reduceAdd, Int.reduceSub, Int.reduceMul, Int.reduceEq, Int.reduceNe, Int.reduceLT, Int.reduceLE, Int.reduceGT, Int.reduceGE, f0, f2, h502]
        have hmap : ps.map Pr.row ++ [p.row] = (ps ++ [p]).map Pr.row := by simp
        have hml : (ps.map Pr.row).length + [p.row].length = (ps ++ [p]).length := by simp
        have hM7 : M id7 = none := by
          cases hm : M id7 with
          | none => rfl
          | some bk =>
            by_cases e : id7 = id
            · omega
            · have h1 := L5.kept _ _ hm e
              have h2 := L5.sb.le _ _ h1
              rw [hid7 id7 (Nat.le_refl _)] at h2
              cases h2
        obtain ⟨N7, eN7, n7a, n7b, n7c, n7d⟩ : ∃ N7, N7 = (N50.set id7 (.cells 79 (ps.map Pr.row ++ [[.int .i64 p.key, .int .i64 p.val]]) 0)).set id2 (.cells 46 [[.bool false, .int .i64 0, .int .i64 0, .int .i64 0, .ms id7 0 (ps.length + 1), .int .i64 0]] 0) ∧
            N7 id = some (rdB s3 left x) ∧ N7 id2 = some (.cells 46 [[.bool false, .int .i64 0, .int .i64 0, .int .i64 0, .ms id7 0 (ps.length + 1), .int .i64 0]] 0) ∧ N7 id7 = some (.cells 79 ((ps ++ [p]).map Pr.row) 0) ∧ ∀ k bk, M k = some bk → k ≠ id → N7 k = some bk := by
          refine ⟨_, rfl, ?_, Mem.set_eq _ _ _, ?_, fun k bk hk hk' => ?_⟩
          · rw [Mem.set_ne _ _ _ _ hne2, Mem.set_ne _ _ _ _ (by omega)]
            exact L5.own0
          · rw [Mem.set_ne _ _ _ _ (by omega), Mem.set_eq, ← hmap]
            rfl
          · rw [Mem.set_ne _ _ _ _ (fun e => by rw [← e, hM2] at hk; cases hk), Mem.set_ne _ _ _ _ (fun e => by rw [← e, hM7] at hk; cases hk)]
            exact L5.kept _ _ hk hk'
        rw [← eN7]
        refine ⟨s3.length, N7, by omega, Mem.le_refl _, .ms id7 0 (ps.length + 1), ps ++ [p], s3, N7.del id7, by omega, by simp; omega, rfl, hI.step h124 (by rw [if_pos hp0]; exact hw) hp, ⟨n7a, n7b, ?_, fun k bk hk hk' => ?_, ?_⟩⟩
        · have := SB.ms n7c
          rw [List.length_map, List.length_append] at this
          exact this
        · rw [Mem.del_ne _ _ _ (fun e => by rw [← e, hM7] at hk; cases hk)]
          exact n7d _ _ hk hk'
        · rw [Mem.del_ne _ _ _ (by omega)]
          exact n7a
      · simp -implicitDefEqProofs (maxSteps := 1000000) (disch := omega) only [↓xsP, ↓vc_seq, xsQ, xsT, xsR, xsD, ↓reduceIte, reduceCtorEq, eq_self, ne_eq, imp_self, forall_const, Nat.reduceEqDiff, Nat.reduceAdd, Nat.reduceSub, Nat.reduceMul, Nat.reduceLT, Nat.reduceLeDiff, Nat.reduceBEq, Nat.reduceDiv, Nat.reduceMod, Int.reduceToNat, Int.reduceNeg, Int.reduceAdd, Int.reduceSub, Int.reduceMul, Int.reduceEq, Int.reduceNe, Int.reduceLT, Int.reduceLE, Int.reduceGT, Int.reduceGE, f0, f2]
        refine newI_intro fun id4 hid4 => ?_
        have L4 := L3.new hid4 (.cells 79 [[.int .i64 p.key, .int .i64 p.val]] 0)
        have k42 := lt_of_bnd hid4 L3.nod
        simp -implicitDefEqProofs (maxSteps := 1000000) (disch := omega) only [↓xsP, ↓vc_seq, xsQ, xsT, xsR, xsD, ↓reduceIte, reduceCtorEq, eq_self, ne_eq, imp_self, forall_const, Nat.reduceEqDiff, Nat.reduceAdd, Nat.reduceSub, Nat.reduceMul, Nat.reduceLT, Nat.reduceLeDiff, Nat.reduceBEq, Nat.reduceDiv, Nat.reduceMod, Int.reduceToNat, Int.reduceNeg, Int.reduceAdd, Int.reduceSub, Int.reduceMul, Int.reduceEq, Int.reduceNe, Int.reduceLT, Int.reduceLE, Int.reduceGT, Int.reduceGE, f0, f2, L3.nod]
        obtain ⟨g1, g2, g3, g4⟩ := L4.put hM2 hne2 (.cells 46 [[.bool false, .int .i64 0, .int .i64 0, .int .i64 0, xp, .int .i64 0]] 0)
        refine leaf_fin g1 (le_upd g3 g4) ⟨s3, by omega, rfl, .inr ⟨hI.none h124 fun w q u hww => ?_, leafN ps 0, rfl⟩⟩
        rw [if_pos hp0] at hww
        rw [hww, ← hw]
        exact hno q u
    · have w0 : decide ((ps.length : Int) > 0) = true := decide_eq_true (by have := List.length_pos_iff.2 hp0; omega)
      simp -implicitDefEqProofs (maxSteps := 1000000) (disch := omega) only [↓xsP, ↓vc_seq, xsQ, xsT, xsR, xsD, ↓reduceIte, reduceCtorEq, eq_self, ne_eq, imp_self, forall_const, Nat.reduceEqDiff, Nat.reduceAdd, Nat.reduceSub, Nat.reduceMul, Nat.reduceLT, Nat.reduceLeDiff, Nat.reduceBEq, Nat.reduceDiv, Nat.reduceMod, Int.reduceToNat, Int.reduceNeg, Int.reduceAdd, Int.reduceSub, Int.reduceMul, Int.reduceEq, Int.reduceNe, Int.reduceLT, Int.reduceLE, Int.reduceGT, Int.reduceGE, f0, f2, hN1, hln, w0]
      refine callI_of ((sign_spec s1 left x 44 id _ hL1.own).mono ?_)
      rintro _ _ ⟨rfl, rfl⟩
      have hcl4 := cutc_len 44 s1
      have L := hL1.set hne2 (cutc 44 s1)
      generalize N1.set id (rdB (cutc 44 s1) left x) = Nw at L ⊢
      generalize N10.set id (rdB (cutc 44 s1) left x) = Nw0 at L
      by_cases h44 : s1.head? = some 44
      · rw [decide_eq_true h44]
        simp -implicitDefEqProofs (maxSteps := 1000000) (disch := omega) only [↓xsP, ↓vc_seq, xsQ, xsT, xsR, xsD, ↓reduceIte, reduceCtorEq, eq_self, ne_eq, imp_self, forall_const, Nat.reduceEqDiff, Nat.reduceAdd, Nat.reduceSub, Nat.reduceMul, Nat.reduceLT, Nat.reduceLeDiff, Nat.reduceBEq, Nat.reduceDiv, Nat.reduceMod, Int.reduceToNat, Int.reduceNeg, Int.reduceAdd, Int.reduceSub, Int.reduceMul, Int.reduceEq, Int.reduceNe, Int.reduceLT, Int.reduceLE, Int.reduceGT, Int.reduceGE, f0, f2, w0]
        have hw := cutc_eq h44
        obtain ⟨sw, hsw⟩ : ∃ sw, cutc 44 s1 = sw := ⟨_, rfl⟩
        rw [hsw] at L hw hcl4
        clear hln hN1 hL hL1
        have hpl := L.own
        have hswl : sw.length ≤ s1.length := by omega
        refine callI_of ((pair_spec sw (by omega) left x id _ hpl).mono ?_)
        rintro _ _ ⟨s3, hs3, rfl, h⟩
        have L3 := L.set hne2 s3
        generalize Nw.set id (rdB s3 left x) = N3 at L3 ⊢
        generalize Nw0.set id (rdB s3 left x) = N30 at L3
        rcases h with ⟨p, hp, rfl⟩ | ⟨hno, p, rfl⟩
        · have hplen := pairAt_len hp
          simp -implicitDefEqProofs (maxSteps := 1000000) (disch := omega) only [↓xsP, ↓vc_seq, xsQ, xsT, xsR, xsD, ↓reduceIte, reduceCtorEq, eq_self, ne_eq, imp_self, forall_const, Nat.reduceEqDiff, Nat.reduceAdd, Nat.reduceSub, Nat.reduceMul, Nat.reduceLT, Nat.reduceLeDiff, Nat.reduceBEq, Nat.reduceDiv, Nat.reduceMod, Int.reduceToNat, Int.reduceNeg, Int.reduceAdd, Int.reduceSub, Int.reduceMul, Int.reduceEq, Int.reduceNe, Int.reduceLT, Int.reduceLE, Int.reduceGT, Int.reduceGE, f0, f2]
          refine newI_intro fun id4 hid4 => ?_
          have L4 := L3.new hid4 (.cells 79 [[.int .i64 p.key, .int .i64 p.val]] 0)
          have h44 := Mem.set_eq N3 id4 (.cells 79 [[.int .i64 p.key, .int .i64 p.val]] 0)
          have k42 := lt_of_bnd hid4 L3.nod
          simp -implicitDefEqProofs (maxSteps := 1000000) (disch := omega) only [↓xsP, ↓vc_seq, xsQ, xsT, xsR, xsD, ↓reduceIte, reduceCtorEq, eq_self, ne_eq, imp_self, forall_const, Nat.reduceEqDiff, Nat.reduceAdd, Nat.reduceSub, Nat.reduceMul, Nat.reduceLT, Nat.reduceLeDiff, Nat.reduceBEq, Nat.reduceDiv, Nat.reduceMod, Int.reduceToNat, Int.reduceNeg, Int.reduceAdd, Int.reduceSub, Int.reduceMul, Int.reduceEq, Int.reduceNe, Int.reduceLT, Int.reduceLE, Int.reduceGT, Int.reduceGE, f0, f2, L3.nod]
          refine newI_intro fun idp hidp => ?_
          have L5 := L4.new hidp (.cells 79 [[.int .i64 p.key, .int .i64 p.val]] 0)
          have kp2 := lt_of_bnd hidp L4.nod
          have kp4 := lt_of_bnd hidp h44
          simp -implicitDefEqProofs (maxSteps := 1000000) (disch := omega) only [↓xsP, ↓vc_seq, xsQ, xsT, xsR, xsD, ↓reduceIte, reduceCtorEq, eq_self, ne_eq, imp_self, forall_const, Nat.reduceEqDiff, Nat.reduceAdd, Nat.reduceSub, Nat.reduceMul, Nat.reduceLT, Nat.reduceLeDiff, Nat.reduceBEq, Nat.reduceDiv, Nat.reduceMod, Int.reduceToNat, Int.reduceNeg, Int.reduceAdd, Int.reduceSub, Int.reduceMul, Int.reduceEq, Int.reduceNe, Int.reduceLT, Int.reduceLE, Int.reduceGT, Int.reduceGE, f0, f2, L3.nod]
          obtain ⟨N5, eN5, hsrc⟩ : ∃ N5, N5 = (N3.set id4 (.cells 79 [[.int .i64 p.key, .int .i64 p.val]] 0)).set idp (.cells 79 [[.int .i64 p.key, .int .i64 p.val]] 0) ∧ N5 idp = some (.cells 79 [[.int .i64 p.key, .int .i64 p.val]] 0) := ⟨_, rfl, Mem.set_eq _ _ _⟩
          rw [← eN5] at L5 ⊢
          generalize (N30.set id4 (.cells 79 [[.int .i64 p.key, .int .i64 p.val]] 0)).set idp (.cells 79 [[.int .i64 p.key, .int .i64 p.val]] 0) = N50 at L5
          refine app_sb ti_44 rfl ti_79 (by kernel_rfl) (by decide) (by decide) L5.sb (bs := [p.row]) (by unfold srcRows; rw [if_pos rfl]; simp only [hsrc]; rfl) (by simp) (by rw [List.length_map]; simp only [List.length_cons, List.length_nil]; omega) (fun id7 hid7 => ?_)
          have k72 := lt_of_bnd hid7 L5.nod
          have k7i := lt_of_bnd hid7 L5.own
          have h502 : N50 id2 = some (.cells 46 [[.bool false, .int .i64 0, .int .i64 0, .int .i64 0, xp, .int .i64 0]] 0) := by
            have h1 := L5.sb
            have h2 := L5.nod
            generalize ps.map Pr.row = rows at h1
            cases h1 with
            | nil => exact h2
            | @ms idq _ hq =>
              rw [Mem.del_ne _ _ _ (fun e => by rw [e, h2] at hq; cases hq)]
              exact h2
          simp -implicitDefEqProofs (maxSteps := 1000000) (disch := omega) only [↓xsP, ↓vc_seq, xsQ, xsT, xsR, xsD, ↓reduceIte, reduceCtorEq, eq_self, ne_eq, imp_self, forall_const, Nat.reduceEqDiff, Nat.reduceAdd, Nat.reduceSub, Nat.reduceMul, Nat.reduceLT, Nat.reduceLeDiff, Nat.reduceBEq, Nat.reduceDiv, Nat.reduceMod, Int.reduceToNat, Int.reduceNeg, Int.reduceAdd, Int.reduceSub, Int.reduceMul, Int.reduceEq, Int.reduceNe, Int.reduceLT, Int.reduceLE, Int.reduceGT, Int.reduceGE, f0, f2, h502]
          have hmap : ps.map Pr.row ++ [p.row] = (ps ++ [p]).map Pr.row := by simp
          have hml : (ps.map Pr.row).length + [p.row].length = (ps ++ [p]).length := by simp
          have hM7 : M id7 = none := by
            cases hm : M id7 with
            | none => rfl
            | some bk =>
              by_cases e : id7 = id
              · omega
              · have h1 := L5.kept _ _ hm e
                have h2 := L5.sb.le _ _ h1
                rw [hid7 id7 (Nat.le_refl _)] at h2
                cases h2
          obtain ⟨N7, eN7, n7a, n7b, n7c, n7d⟩ : ∃ N7, N7 = (N50.set id7 (.cells 79 (ps.map Pr.row ++ [[.int .i64 p.key, .int .i64 p.val]]) 0)).set id2 (.cells 46 [[.bool false, .int .i64 0, .int .i64 0, .int .i64 0, .ms id7 0 (ps.length + 1), .int .i64 0]] 0) ∧
              N7 id = some (rdB s3 left x) ∧ N7 id2 = some (.cells 46 [[.bool false, .int .i64 0, .int .i64 0, .int .i64 0, .ms id7 0 (ps.length + 1), .int .i64 0]] 0) ∧ N7 id7 = some (.cells 79 ((ps ++ [p]).map Pr.row) 0) ∧ ∀ k bk, M k = some bk → k ≠ id → N7 k = some bk := by
            refine ⟨_, rfl, ?_, Mem.set_eq _ _ _, ?_, fun k bk hk hk' => ?_⟩
            · rw [Mem.set_ne _ _ _ _ hne2, Mem.set_ne _ _ _ _ (by omega)]
              exact L5.own0
            · rw [Mem.set_ne _ _ _ _ (by omega), Mem.set_eq, ← hmap]
              rfl
            · rw [Mem.set_ne _ _ _ _ (fun e => by rw [← e, hM2] at hk; cases hk), Mem.set_ne _ _ _ _ (fun e => by rw [← e, hM7] at hk; cases hk)]
              exact L5.kept _ _ hk hk'
          rw [← eN7]
          refine ⟨s3.length, N7, by omega, Mem.le_refl _, .ms id7 0 (ps.length + 1), ps ++ [p], s3, N7.del id7, by omega, by simp; omega, rfl, hI.step h124 (by rw [if_neg hp0]; exact hw) hp, ⟨n7a, n7b, ?_, fun k bk hk hk' => ?_, ?_⟩⟩
          · have := SB.ms n7c
            rw [List.length_map, List.length_append] at this
            exact this
          · rw [Mem.del_ne _ _ _ (fun e => by rw [← e, hM7] at hk; cases hk)]
            exact n7d _ _ hk hk'
          · rw [Mem.del_ne _ _ _ (by omega)]
            exact n7a
        · simp -implicitDefEqProofs (maxSteps := 1000000) (disch := omega) only [↓xsP, ↓vc_seq, xsQ, xsT, xsR, xsD, ↓reduceIte, reduceCtorEq, eq_self, ne_eq, imp_self, forall_const, Nat.reduceEqDiff, Nat.reduceAdd, Nat.reduceSub, Nat.reduceMul, Nat.reduceLT, Nat.reduceLeDiff, Nat.reduceBEq, Nat.reduceDiv, Nat.reduceMod, Int.reduceToNat, Int.reduceNeg, Int.reduceAdd, Int.reduceSub, Int.reduceMul, Int.reduceEq, Int.reduceNe, Int.reduceLT, Int.reduceLE, Int.reduceGT, Int.reduceGE, f0, f2]
          refine newI_intro fun id4 hid4 => ?_
          have L4 := L3.new hid4 (.cells 79 [[.int .i64 p.key, .int .i64 p.val]] 0)
          have k42 := lt_of_bnd hid4 L3.nod
          simp -implicitDefEqProofs (maxSteps := 1000000) (disch := omega) only [↓xsP, ↓vc_seq, xsQ, xsT, xsR, xsD, ↓reduceIte, reduceCtorEq, eq_self, ne_eq, imp_self, forall_const, Nat.reduceEqDiff, Nat.reduceAdd, Nat.reduceSub, Nat.reduceMul, Nat.reduceLT, Nat.reduceLeDiff, Nat.reduceBEq, Nat.reduceDiv, Nat.reduceMod, Int.reduceToNat, Int.reduceNeg, Int.reduceAdd, Int.reduceSub, Int.reduceMul, Int.reduceEq, Int.reduceNe, Int.reduceLT, Int.reduceLE, Int.reduceGT, Int.reduceGE, f0, f2, L3.nod]
          obtain ⟨g1, g2, g3, g4⟩ := L4.put hM2 hne2 (.cells 46 [[.bool false, .int .i64 0, .int .i64 0, .int .i64 0, xp, .int .i64 0]] 0)
          refine leaf_fin g1 (le_upd g3 g4) ⟨s3, by omega, rfl, .inr ⟨hI.none h124 fun w q u hww => ?_, leafN ps 0, rfl⟩⟩
          rw [if_neg hp0] at hww
          rw [hw] at hww
          injection hww with _ hww
          rw [← hww]
          exact hno q u
      · rw [decide_eq_false h44]
        have hLn := L.nod
        simp -implicitDefEqProofs (maxSteps := 1000000) (disch := omega) only [↓xsP, ↓vc_seq, xsQ, xsT, xsR, xsD, ↓reduceIte, reduceCtorEq, eq_self, ne_eq, imp_self, forall_const, Nat.reduceEqDiff, Nat.reduceAdd, Nat.reduceSub, Nat.reduceMul, Nat.reduceLT, Nat.reduceLeDiff, Nat.reduceBEq, Nat.reduceDiv, Nat.reduceMod, Int.reduceToNat, Int.reduceNeg, Int.reduceAdd, Int.reduceSub, Int.reduceMul, Int.reduceEq, Int.reduceNe, Int.reduceLT, Int.reduceLE, Int.reduceGT, Int.reduceGE, f0, f2, w0, hLn]
        obtain ⟨g1, g2, g3, g4⟩ := L.put hM2 hne2 (.cells 46 [[.bool false, .int .i64 0, .int .i64 0, .int .i64 0, xp, .int .i64 0]] 0)
        refine leaf_fin g1 (le_upd g3 g4) ⟨cutc 44 s1, by omega, rfl, .inr ⟨hI.none h124 fun w q u hww => ?_, leafN ps 0, rfl⟩⟩
        rw [if_neg hp0] at hww
        rw [hww] at h44
        exact absurd rfl h44
end Go.X
set_option linter.unusedVariables false
set_option linter.unusedSimpArgs false
set_option maxHeartbeats 20000000
set_option maxRecDepth 100000
namespace Go.X
open Go.Proofs.Tryd (prog)

structure RSt (B N : Mem) (id : Nat) (s : List UInt8) (left : Int) (rows : List (List Lf)) (xn : Lf) : Prop where
  own : N id = some (rdB s left xn)
  bid : B id = none
  le : B.le N
  nds : (rows = [] ∧ xn = .nils) ∨ ∃ idn, xn = .ms idn 0 rows.length ∧ N idn = some (.cells 46 rows 0) ∧ B idn = none
theorem RSt.ms {B N : Mem} {id : Nat} {s : List UInt8} {left : Int} {rows : List (List Lf)} {xn : Lf} (h : RSt B N id s left rows xn) (hr : rows ≠ []) : ∃ idn, xn = .ms idn 0 rows.length ∧ N idn = some (.cells 46 rows 0) ∧ B idn = none ∧ idn ≠ id := by
  rcases h.nds with ⟨h, _⟩ | ⟨idn, h1, h2, h3⟩
  · exact absurd h hr
  · refine ⟨idn, h1, h2, h3, fun e => ?_⟩
    have := h.own
    rw [← e, h2] at this
    injection this with this
    injection this with this
    exact absurd this (by decide)
theorem RSt.set {B N : Mem} {id : Nat} {s : List UInt8} {left : Int} {rows : List (List Lf)} {xn : Lf} (h : RSt B N id s left rows xn) (s' : List UInt8) (left' : Int) : RSt B (N.set id (rdB s' left' xn)) id s' left' rows xn := by
  refine ⟨Mem.set_eq _ _ _, h.bid, fun k bk hk => ?_, ?_⟩
  · rw [Mem.set_ne _ _ _ _ (fun e => by rw [← e, h.bid] at hk; cases hk)]
    exact h.le _ _ hk
  · by_cases hr : rows = []
    · rcases h.nds with h | ⟨idn, h1, h2, h3⟩
      · exact .inl h
      · refine .inr ⟨idn, h1, ?_, h3⟩
        rw [Mem.set_ne _ _ _ _ (fun e => ?_)]
        · exact h2
        · have := h.own
          rw [e, h2] at this
          injection this with this
          injection this with this
          exact absurd this (by decide)
    · obtain ⟨idn, h1, h2, h3, h4⟩ := h.ms hr
      exact .inr ⟨idn, h1, by rw [Mem.set_ne _ _ _ _ (Ne.symm h4)]; exact h2, h3⟩
theorem RSt.new {B N : Mem} {id : Nat} {s : List UInt8} {left : Int} {rows : List (List Lf)} {xn : Lf} (h : RSt B N id s left rows xn) {i : Nat} (hi : ∀ j, i ≤ j → N j = none) (X : Blk) : RSt B (N.set i X) id s left rows xn := by
  have k1 := lt_of_bnd hi h.own
  refine ⟨by rw [Mem.set_ne _ _ _ _ (by omega)]; exact h.own, h.bid, fun k bk hk => ?_, ?_⟩
  · have h1 := h.le _ _ hk
    have := lt_of_bnd hi h1
    rw [Mem.set_ne _ _ _ _ (by omega)]
    exact h1
  · rcases h.nds with h' | ⟨idn, h1, h2, h3⟩
    · exact .inl h'
    · have := lt_of_bnd hi h2
      exact .inr ⟨idn, h1, by rw [Mem.set_ne _ _ _ _ (by omega)]; exact h2, h3⟩
def R6 (rows : List (List Lf)) : Prop := ∀ r ∈ rows, r.length = 6
/-- A tree's nodes as they are read: a route's pairs are nil. -/
def preR : Nat → Tr → List (List Lf)
  | _, .leaf ps st => [(leafN ps st).row]
  | h, .fork k l r => [.bool true, .int .i64 k, .int .i64 ((h + 1 : Nat) : Int), .int .i64 ((h + 1 + l.size : Nat) : Int), .nils, .int .i64 0] :: (preR (h + 1) l ++ preR (h + 1 + l.size) r)
theorem preR_len : ∀ (T : Tr) (h : Nat), (preR h T).length = T.size
  | .leaf _ _, _ => rfl
  | .fork k l r, h => by simp [preR, preR_len l, preR_len r, Tr.size]; omega
theorem preR_6 : ∀ (T : Tr) (h : Nat), R6 (preR h T)
  | .leaf _ _, _ => fun r hr => by
    rw [preR] at hr
    rw [List.mem_singleton.1 hr]
    rfl
  | .fork k l r, h => fun x hx => by
    rw [preR] at hx
    rcases List.mem_cons.1 hx with rfl | hx
    · rfl
    · rcases List.mem_append.1 hx with hx | hx
      · exact preR_6 l _ x hx
      · exact preR_6 r _ x hx
theorem preR_wk : ∀ (T : Tr) (h : Nat), (preR h T).map (fun r => r.map wkL) = (preN h T).map Nd.row
  | .leaf _ _, _ => by simp [preR, preN, Nd.row, wkL]
  | .fork k l r, h => by simp [preR, preN, preR_wk l, preR_wk r, Nd.row, forkN, wkL]
/-- What node tells. -/
def NodeK (B : Mem) (id : Nat) (s : List UInt8) (f : Nat) (rows : List (List Lf)) (r : AV) (N' : Mem) : Prop :=
  (∃ T t, ∃ f' : Nat, ∃ xn', TreeAt s T t ∧ T.size + f' = f ∧ r = .tup [.l (.int .i64 rows.length), .l (.bool true)] ∧ RSt B N' id t f' (rows ++ preR rows.length T) xn') ∨
  ((∀ T t, TreeAt s T t → f < T.size) ∧ ∃ n s' left' rows' xn', r = .tup [.l (.int .i64 n), .l (.bool false)] ∧ RSt B N' id s' left' rows' xn' ∧ rows.length ≤ rows'.length ∧ rows'.length ≤ rows.length + f ∧ R6 rows')
def NodeP (B : Mem) (id : Nat) (f : Nat) : Prop := ∀ (s : List UInt8) (rows : List (List Lf)) (xn : Lf) (N : Mem), s.length ≤ 1000000 → rows.length + f ≤ 100000 → R6 rows → RSt B N id s f rows xn →
  XCalls Go.Proofs.Tryd.prog 24 [.l (.ptr id 0 0)] N (NodeK B id s f rows)
def ForkAt (s : List UInt8) (k : Int) (l r : Tr) (t : List UInt8) : Prop := ∃ b c, TreeAt s l (32 :: b) ∧ NumAt b k (32 :: c) ∧ TreeAt c r (41 :: t)
def RouteK (B : Mem) (id : Nat) (s : List UInt8) (f : Nat) (rows : List (List Lf)) (r : AV) (N' : Mem) : Prop :=
  (∃ k L R t, ∃ f' : Nat, ∃ xn', ForkAt s k L R t ∧ L.size + R.size + f' = f ∧ r = .l (.bool true) ∧ RSt B N' id t f' (rows ++ preR rows.length (.fork k L R)) xn') ∨
  ((∀ k L R t, ForkAt s k L R t → f < L.size + R.size) ∧ ∃ s' left' rows' xn', r = .l (.bool false) ∧ RSt B N' id s' left' rows' xn' ∧ rows.length ≤ rows'.length ∧ rows'.length ≤ rows.length + 1 + f ∧ R6 rows')
theorem treeAt_len : ∀ {T : Tr} {s t : List UInt8}, TreeAt s T t → t.length < s.length
  | .leaf ps st, s, t, ⟨a, u, h1, h2, h3⟩ => by
    have g3 := numAt_len h3
    have key : ∀ (ps : List Pr) (b : Bool) (a t : List UInt8), PrsAt b a ps t → t.length ≤ a.length := by
      intro ps
      induction ps with
      | nil => intro b a t h; cases b <;> (rw [show a = t from h]; exact Nat.le_refl _)
      | cons p r ih =>
        intro b a t h
        cases b with
        | true =>
          obtain ⟨u, g1, g2⟩ := h
          have := pairAt_len g1
          have := ih _ _ _ g2
          omega
        | false =>
          obtain ⟨w, u, g0, g1, g2⟩ := h
          have := pairAt_len g1
          have := ih _ _ _ g2
          rw [g0, List.length_cons]
          omega
    have := key _ _ _ _ h2
    rw [h1]
    simp only [List.length_cons] at *
    omega
  | .fork k l r, s, t, ⟨a, b, c, h1, h2, h3, h4⟩ => by
    have g2 := treeAt_len h2
    have g3 := numAt_len h3
    have g4 := treeAt_len h4
    rw [h1]
    simp only [List.length_cons] at *
    omega
theorem prsAt_uniq {s0 : List UInt8} {ps : List Pr} {u : List UInt8} : ∀ {b : Bool} {s : List UInt8} {ps qs : List Pr} {t u : List UInt8}, PrsAt b s ps (124 :: t) → PrsAt b s qs (124 :: u) → ps = qs ∧ t = u := by
  intro b s ps
  induction ps generalizing b s with
  | nil =>
    intro qs t u h h'
    have e : s = 124 :: t := by cases b <;> exact h
    rw [e] at h'
    obtain ⟨rfl, e2⟩ := prsAt_124 h'
    injection e2 with _ e2
    exact ⟨rfl, e2⟩
  | cons p r ih =>
    intro qs t u h h'
    cases qs with
    | nil =>
      have e : s = 124 :: u := by cases b <;> exact h'
      rw [e] at h
      obtain ⟨h, _⟩ := prsAt_124 h
      cases h
    | cons q r' =>
      cases b with
      | true =>
        obtain ⟨v, g1, g2⟩ := h
        obtain ⟨v', g1', g2'⟩ := h'
        obtain ⟨rfl, rfl⟩ := pairAt_uniq g1 g1'
        obtain ⟨rfl, rfl⟩ := ih g2 g2'
        exact ⟨rfl, rfl⟩
      | false =>
        obtain ⟨w, v, g0, g1, g2⟩ := h
        obtain ⟨w', v', g0', g1', g2'⟩ := h'
        rw [g0] at g0'
        injection g0' with _ g0'
        subst g0'
        obtain ⟨rfl, rfl⟩ := pairAt_uniq g1 g1'
        obtain ⟨rfl, rfl⟩ := ih g2 g2'
        exact ⟨rfl, rfl⟩
theorem leafAt_uniq {s : List UInt8} {ps qs : List Pr} {st st' : Int} {t u : List UInt8} (h : LeafAt s ps st t) (h' : LeafAt s qs st' u) : ps = qs ∧ st = st' ∧ t = u := by
  obtain ⟨a, h1, h2⟩ := h
  obtain ⟨b, g1, g2⟩ := h'
  obtain ⟨rfl, rfl⟩ := prsAt_uniq (s0 := s) (ps := ps) (u := t) h1 g1
  obtain ⟨rfl, e⟩ := numAt_uniq h2 g2
  injection e with _ e
  exact ⟨rfl, rfl, e⟩
theorem treeAt_uniq : ∀ {T : Tr} {s t : List UInt8} {U : Tr} {u : List UInt8}, TreeAt s T t → TreeAt s U u → T = U ∧ t = u
  | .leaf ps st, s, t, .leaf qs st', u, ⟨a, b, h1, h2, h3⟩, ⟨a', b', g1, g2, g3⟩ => by
    rw [h1] at g1
    injection g1 with _ g1
    subst g1
    obtain ⟨rfl, rfl, rfl⟩ := leafAt_uniq ⟨b, h2, h3⟩ ⟨b', g2, g3⟩
    exact ⟨rfl, rfl⟩
  | .leaf ps st, s, t, .fork k l r, u, ⟨a, b, h1, h2, h3⟩, ⟨a', b', c', g1, g2, g3, g4⟩ => by
    rw [h1] at g1
    injection g1 with g1 _
    exact absurd g1 (by decide)
  | .fork k l r, s, t, .leaf qs st', u, ⟨a', b', c', g1, g2, g3, g4⟩, ⟨a, b, h1, h2, h3⟩ => by
    rw [h1] at g1
    injection g1 with g1 _
    exact absurd g1 (by decide)
  | .fork k l r, s, t, .fork k' l' r', u, ⟨a, b, c, h1, h2, h3, h4⟩, ⟨a', b', c', g1, g2, g3, g4⟩ => by
    rw [h1] at g1
    injection g1 with _ g1
    subst g1
    obtain ⟨rfl, e⟩ := treeAt_uniq h2 g2
    injection e with _ e
    subst e
    obtain ⟨rfl, e⟩ := numAt_uniq h3 g3
    injection e with _ e
    subst e
    obtain ⟨rfl, e⟩ := treeAt_uniq h4 g4
    injection e with _ e
    exact ⟨rfl, e⟩
end Go.X
set_option linter.unusedVariables false
set_option linter.unusedSimpArgs false
set_option maxHeartbeats 20000000
set_option maxRecDepth 100000
namespace Go.X
open Go.Proofs.Tryd (prog)

def plB (root : Int) (ns : List Nd) (ids : Nat) (x : Lf) (bad : Bool) : Blk := .cells 82 [[.int .i64 root, .sl (ns.map Nd.row), x, .ms ids 0 ns.length, .bool bad]] 0
structure PSt (B N : Mem) (root : Int) (ns : List Nd) (id ids : Nat) (m : List Bool) (rows : List (List Lf)) (x : Lf) (bad : Bool) : Prop where
  own : N id = some (plB root ns ids x bad)
  seen : N ids = some (mtB m)
  bid : B id = none
  bids : B ids = none
  le : B.le N
  nds : (rows = [] ∧ x = .nils) ∨ ∃ idn, x = .ms idn 0 rows.length ∧ N idn = some (.cells 46 rows 0) ∧ B idn = none
theorem PSt.ne {B N : Mem} {root : Int} {ns : List Nd} {id ids : Nat} {m : List Bool} {rows : List (List Lf)} {x : Lf} {bad : Bool} (h : PSt B N root ns id ids m rows x bad) : id ≠ ids := ne_ty h.own h.seen (by decide)
theorem PSt.ms {B N : Mem} {root : Int} {ns : List Nd} {id ids : Nat} {m : List Bool} {rows : List (List Lf)} {x : Lf} {bad : Bool} (h : PSt B N root ns id ids m rows x bad) (hr : rows ≠ []) : ∃ idn, x = .ms idn 0 rows.length ∧ N idn = some (.cells 46 rows 0) ∧ B idn = none ∧ idn ≠ id ∧ idn ≠ ids := by
  rcases h.nds with ⟨h, _⟩ | ⟨idn, h1, h2, h3⟩
  · exact absurd h hr
  · exact ⟨idn, h1, h2, h3, ne_ty h2 h.own (by decide), ne_ty h2 h.seen (by decide)⟩
theorem PSt.setbad {B N : Mem} {root : Int} {ns : List Nd} {id ids : Nat} {m : List Bool} {rows : List (List Lf)} {x : Lf} {bad : Bool} (h : PSt B N root ns id ids m rows x bad) (b : Bool) : PSt B (N.set id (plB root ns ids x b)) root ns id ids m rows x b := by
  refine ⟨Mem.set_eq _ _ _, by rw [Mem.set_ne _ _ _ _ h.ne]; exact h.seen, h.bid, h.bids, fun k bk hk => ?_, ?_⟩
  · rw [Mem.set_ne _ _ _ _ (fun e => by rw [← e, h.bid] at hk; cases hk)]
    exact h.le _ _ hk
  · rcases h.nds with h' | ⟨idn, h1, h2, h3⟩
    · exact .inl h'
    · exact .inr ⟨idn, h1, by rw [Mem.set_ne _ _ _ _ (Ne.symm (ne_ty h2 h.own (by decide)))]; exact h2, h3⟩
theorem PSt.setseen {B N : Mem} {root : Int} {ns : List Nd} {id ids : Nat} {m : List Bool} {rows : List (List Lf)} {x : Lf} {bad : Bool} (h : PSt B N root ns id ids m rows x bad) (m' : List Bool) : PSt B (N.set ids (mtB m')) root ns id ids m' rows x bad := by
  refine ⟨by rw [Mem.set_ne _ _ _ _ (Ne.symm h.ne)]; exact h.own, Mem.set_eq _ _ _, h.bid, h.bids, fun k bk hk => ?_, ?_⟩
  · rw [Mem.set_ne _ _ _ _ (fun e => by rw [← e, h.bids] at hk; cases hk)]
    exact h.le _ _ hk
  · rcases h.nds with h' | ⟨idn, h1, h2, h3⟩
    · exact .inl h'
    · exact .inr ⟨idn, h1, by rw [Mem.set_ne _ _ _ _ (Ne.symm (ne_ty h2 h.seen (by decide)))]; exact h2, h3⟩
theorem PSt.new {B N : Mem} {root : Int} {ns : List Nd} {id ids : Nat} {m : List Bool} {rows : List (List Lf)} {x : Lf} {bad : Bool} (h : PSt B N root ns id ids m rows x bad) {i : Nat} (hi : ∀ j, i ≤ j → N j = none) (X : Blk) : PSt B (N.set i X) root ns id ids m rows x bad := by
  have k1 := lt_of_bnd hi h.own
  have k2 := lt_of_bnd hi h.seen
  refine ⟨by rw [Mem.set_ne _ _ _ _ (by omega)]; exact h.own, by rw [Mem.set_ne _ _ _ _ (by omega)]; exact h.seen, h.bid, h.bids, fun k bk hk => ?_, ?_⟩
  · have h1 := h.le _ _ hk
    have := lt_of_bnd hi h1
    rw [Mem.set_ne _ _ _ _ (by omega)]
    exact h1
  · rcases h.nds with h' | ⟨idn, h1, h2, h3⟩
    · exact .inl h'
    · have := lt_of_bnd hi h2
      exact .inr ⟨idn, h1, by rw [Mem.set_ne _ _ _ _ (by omega)]; exact h2, h3⟩
theorem PSt.other {B N : Mem} {root : Int} {ns : List Nd} {id ids : Nat} {m : List Bool} {rows : List (List Lf)} {x : Lf} {bad : Bool} (h : PSt B N root ns id ids m rows x bad) {j : Nat} (h1 : j ≠ id) (h2 : j ≠ ids) (h3 : ∀ idn, x = .ms idn 0 rows.length → idn ≠ j) (hB : B j = none) (X : Blk) : PSt B (N.set j X) root ns id ids m rows x bad := by
  refine ⟨by rw [Mem.set_ne _ _ _ _ h1]; exact h.own, by rw [Mem.set_ne _ _ _ _ h2]; exact h.seen, h.bid, h.bids, fun k bk hk => ?_, ?_⟩
  · rw [Mem.set_ne _ _ _ _ (fun e => by rw [e] at hB; rw [hB] at hk; cases hk)]
    exact h.le _ _ hk
  · rcases h.nds with h' | ⟨idn, g1, g2, g3⟩
    · exact .inl h'
    · exact .inr ⟨idn, g1, by rw [Mem.set_ne _ _ _ _ (Ne.symm (h3 idn g1))]; exact g2, g3⟩
theorem PSt.wkB {B B' N : Mem} {root : Int} {ns : List Nd} {id ids : Nat} {m : List Bool} {rows : List (List Lf)} {x : Lf} {bad : Bool} (h : PSt B' N root ns id ids m rows x bad) (hB : B.le B') : PSt B N root ns id ids m rows x bad := by
  have key : ∀ k, B' k = none → B k = none := fun k hk => by
    cases hb : B k with
    | none => rfl
    | some bk => rw [hB _ _ hb] at hk; cases hk
  refine ⟨h.own, h.seen, key _ h.bid, key _ h.bids, fun k bk hk => h.le _ _ (hB _ _ hk), ?_⟩
  rcases h.nds with h' | ⟨idn, g1, g2, g3⟩
  · exact .inl h'
  · exact .inr ⟨idn, g1, g2, key _ g3⟩
theorem PSt.upB {B N : Mem} {root : Int} {ns : List Nd} {id ids : Nat} {m : List Bool} {rows : List (List Lf)} {x : Lf} {bad : Bool} (h : PSt B N root ns id ids m rows x bad) {j : Nat} {X : Blk} (hj : N j = some X) (h1 : j ≠ id) (h2 : j ≠ ids) (h3 : ∀ idn, x = .ms idn 0 rows.length → idn ≠ j) : PSt (B.set j X) N root ns id ids m rows x bad := by
  refine ⟨h.own, h.seen, by rw [Mem.set_ne _ _ _ _ h1]; exact h.bid, by rw [Mem.set_ne _ _ _ _ h2]; exact h.bids, fun k bk hk => ?_, ?_⟩
  · rw [Mem.set_app] at hk
    split at hk
    · rename_i e
      rw [← e, hj]
      exact hk
    · exact h.le _ _ hk
  · rcases h.nds with h' | ⟨idn, g1, g2, g3⟩
    · exact .inl h'
    · exact .inr ⟨idn, g1, g2, by rw [Mem.set_ne _ _ _ _ (Ne.symm (h3 idn g1))]; exact g3⟩
theorem PSt.upd {B N : Mem} {root : Int} {ns : List Nd} {id ids : Nat} {m : List Bool} {rows : List (List Lf)} {idn : Nat} {bad : Bool} (h : PSt B N root ns id ids m rows (.ms idn 0 rows.length) bad) (hB : B idn = none) (h1 : idn ≠ id) (h2 : idn ≠ ids) {rows' : List (List Lf)} (hl : rows'.length = rows.length) : PSt B (N.set idn (.cells 46 rows' 0)) root ns id ids m rows' (.ms idn 0 rows.length) bad := by
  refine ⟨by rw [Mem.set_ne _ _ _ _ h1]; exact h.own, by rw [Mem.set_ne _ _ _ _ h2]; exact h.seen, h.bid, h.bids, fun k bk hk => ?_, .inr ⟨idn, by rw [hl], Mem.set_eq _ _ _, hB⟩⟩
  rw [Mem.set_ne _ _ _ _ (fun e => by rw [← e, hB] at hk; cases hk)]
  exact h.le _ _ hk
/-- A node more. -/
theorem PSt.push {B N : Mem} {root : Int} {ns : List Nd} {id ids : Nat} {m : List Bool} {rows : List (List Lf)} {x : Lf} {bad : Bool} (h : PSt B N root ns id ids m rows x bad) {Q : Mem} {idq : Nat} {r : List Lf} (hBq : B idq = none) (h1 : Q id = some (plB root ns ids (.ms idq 0 (rows.length + 1)) bad)) (h2 : Q ids = some (mtB m)) (h3 : Q idq = some (.cells 46 (rows ++ [r]) 0)) (h4 : B.le Q) : PSt B Q root ns id ids m (rows ++ [r]) (.ms idq 0 (rows.length + 1)) bad :=
  ⟨h1, h2, h.bid, h.bids, h4, .inr ⟨idq, by rw [List.length_append]; rfl, h3, hBq⟩⟩
theorem plan_bad (B N : Mem) (root : Int) (ns : List Nd) (id ids : Nat) (m : List Bool) (rows : List (List Lf)) (x : Lf) (a : Int) (lo hi : AV) (h : PSt B N root ns id ids m rows x true) :
    XCalls Go.Proofs.Tryd.prog 46 [.l (.ptr id 0 0), .l (.int .i64 a), lo, hi] N fun r N' => r = .l (.int .i64 0) ∧ PSt B N' root ns id ids m rows x true := by
  refine xcalls_intro (rs := [.tmp 8]) Go.Proofs.Tryd.func46 rfl (by kernel_rfl) rfl rfl (by kernel_rfl) (by simp) ?_
  have hown := h.own
  rw [plB] at hown
  simp -implicitDefEqProofs (maxSteps := 1000000) (disch := omega) only [↓xsP, ↓vc_seq, xsQ, xsT, xsR, xsD, ↓reduceIte, reduceCtorEq, eq_self, ne_eq, imp_self, forall_const, Nat.reduceEqDiff, Nat.reduceAdd, Nat.reduceSub, Nat.reduceMul, Nat.reduceLT, Nat.reduceLeDiff, Nat.reduceBEq, Nat.reduceDiv, Nat.reduceMod, Int.reduceToNat, Int.reduceNeg, Int.reduceAdd, Int.reduceSub, Int.reduceMul, Int.reduceEq, Int.reduceNe, Int.reduceLT, Int.reduceLE, Int.reduceGT, Int.reduceGE, hown]
  have := h.setbad true
  rw [plB] at this
  exact fin_ok (Mem.le_refl _) ⟨rfl, this⟩
def loL (k : Ks) : List Int := if k.isLeast = true then [k.least] else []
def hiL (k : Ks) : List Int := if k.isMost = true then [k.most] else []
def PlanK (B : Mem) (root : Int) (ns : List Nd) (id ids : Nat) (f : Nat) (m : List Bool) (n a : Int) (k : Ks) (rows : List (List Lf)) (r : AV) (N' : Mem) : Prop :=
  ((mayS ns f (m, n) a k).1 = true ∧ ∃ T pl x', Hang ns a T pl ∧ (mayS ns f (m, n) a k).2.1 = marks m pl ∧ T.size + unmet (marks m pl) ≤ unmet m ∧ r = .l (.int .i64 rows.length) ∧ PSt B N' root ns id ids (marks m pl) (rows ++ preR rows.length T) x' false) ∨
  ((mayS ns f (m, n) a k).1 = false ∧ ∃ v m' rows' x', r = .l (.int .i64 v) ∧ PSt B N' root ns id ids m' rows' x' true ∧ rows.length ≤ rows'.length ∧ rows'.length ≤ rows.length + unmet m ∧ R6 rows')
theorem PlanK.le {B N : Mem} {root : Int} {ns : List Nd} {id ids f : Nat} {m : List Bool} {n a : Int} {k : Ks} {rows : List (List Lf)} {r : AV} (h : PlanK B root ns id ids f m n a k rows r N) : B.le N ∧ ∃ v, r = .l (.int .i64 v) := by
  rcases h with ⟨_, T, pl, x', _, _, _, h1, h2⟩ | ⟨_, v, m', rows', x', h1, h2, _⟩
  · exact ⟨h2.le, _, h1⟩
  · exact ⟨h2.le, v, h1⟩
theorem R6.set {R : List (List Lf)} (h : R6 R) {i : Nat} {r : List Lf} (hr : r.length = 6) : R6 (R.set i r) := fun y hy => by
  rcases List.mem_or_eq_of_mem_set hy with hy | hy
  · exact h y hy
  · rw [hy]; exact hr
theorem R6.get {R : List (List Lf)} (h : R6 R) {i : Nat} (hi : i < R.length) : ∃ a b c d e g, R[i]? = some [a, b, c, d, e, g] := by
  have h1 := h R[i] (List.getElem_mem hi)
  rw [List.getElem?_eq_getElem hi]
  generalize R[i] = y at h1
  match y, h1 with
  | [a, b, c, d, e, g], _ => exact ⟨a, b, c, d, e, g, rfl⟩
theorem plan_spec (root : Int) (ns : List Nd) (hns : ns.length ≤ 2000) (hp : Pok ns) (id ids : Nat) : ∀ (f : Nat) (B : Mem) (m : List Bool) (n a : Int) (k : Ks) (rows : List (List Lf)) (x : Lf) (N : Mem), m.length = ns.length → unmet m < f → rows.length + unmet m ≤ 100000 → R6 rows → PSt B N root ns id ids m rows x false →
    XCalls Go.Proofs.Tryd.prog 46 [.l (.ptr id 0 0), .l (.int .i64 a), .l (.sl ((loL k).map irow)), .l (.sl ((hiL k).map irow))] N (PlanK B root ns id ids f m n a k rows)
  | 0, B, m, n, a, k, rows, x, N, _, h, _, _, _ => absurd h (by omega)
  | f + 1, B, m, n, a, k, rows, x, N, hl, hu, hrl, h6, hP => by
    refine xcalls_intro (rs := [.tmp 8]) Go.Proofs.Tryd.func46 rfl (by kernel_rfl) rfl rfl (by kernel_rfl) (by simp) ?_
    have hown := hP.own
    have hseen := hP.seen
    rw [plB] at hown
    rw [mtB] at hseen
    have hne := hP.ne
    simp -implicitDefEqProofs (maxSteps := 1000000) (disch := omega) only [↓xsP, ↓vc_seq, xsQ, xsT, xsR, xsD, ↓reduceIte, reduceCtorEq, eq_self, ne_eq, imp_self, forall_const, Nat.reduceEqDiff, Nat.reduceAdd, Nat.reduceSub, Nat.reduceMul, Nat.reduceLT, Nat.reduceLeDiff, Nat.reduceBEq, Nat.reduceDiv, Nat.reduceMod, Int.reduceToNat, Int.reduceNeg, Int.reduceAdd, Int.reduceSub, Int.reduceMul, Int.reduceEq, Int.reduceNe, Int.reduceLT, Int.reduceLE, Int.reduceGT, Int.reduceGE, hown]
    have hquit : (a < 0 ∨ (ns.length : Int) ≤ a ∨ m.getD a.toNat false = true) → @finI prog (.l (.int .i64 0)) (N.set id (.cells 82 [[.int .i64 root, .sl (ns.map Nd.row), x, .ms ids 0 ns.length, .bool true]] 0)) ⟨PlanK B root ns id ids (f + 1) m n a k rows⟩ := fun hq => by
      have hb := hP.setbad true
      rw [plB] at hb
      refine fin_ok (Mem.le_refl _) (.inr ⟨by rw [mayS, if_pos hq], 0, m, rows, x, rfl, hb, Nat.le_refl _, by omega, h6⟩)
    by_cases g1 : a < 0
    · have q1 : decide (a < 0) = true := decide_eq_true g1
      simp -implicitDefEqProofs (maxSteps := 1000000) (disch := omega) only [↓xsP, ↓vc_seq, xsQ, xsT, xsR, xsD, ↓reduceIte, reduceCtorEq, eq_self, ne_eq, imp_self, forall_const, Nat.reduceEqDiff, Nat.reduceAdd, Nat.reduceSub, Nat.reduceMul, Nat.reduceLT, Nat.reduceLeDiff, Nat.reduceBEq, Nat.reduceDiv, Nat.reduceMod, Int.reduceToNat, Int.reduceNeg, Int.reduceAdd, Int.reduceSub, Int.reduceMul, Int.reduceEq, Int.reduceNe, Int.reduceLT, Int.reduceLE, Int.reduceGT, Int.reduceGE, hown, q1]
      exact hquit (.inl g1)
    have q1 : decide (a < 0) = false := decide_eq_false g1
    simp -implicitDefEqProofs (maxSteps := 1000000) (disch := omega) only [↓xsP, ↓vc_seq, xsQ, xsT, xsR, xsD, ↓reduceIte, reduceCtorEq, eq_self, ne_eq, imp_self, forall_const, Nat.reduceEqDiff, Nat.reduceAdd, Nat.reduceSub, Nat.reduceMul, Nat.reduceLT, Nat.reduceLeDiff, Nat.reduceBEq, Nat.reduceDiv, Nat.reduceMod, Int.reduceToNat, Int.reduceNeg, Int.reduceAdd, Int.reduceSub, Int.reduceMul, Int.reduceEq, Int.reduceNe, Int.reduceLT, Int.reduceLE, Int.reduceGT, Int.reduceGE, q1, hown, hseen]
    by_cases g2 : (ns.length : Int) ≤ a
    · have q2 : decide (a ≥ (ns.length : Int)) = true := decide_eq_true g2
      simp -implicitDefEqProofs (maxSteps := 1000000) (disch := omega) only [↓xsP, ↓vc_seq, xsQ, xsT, xsR, xsD, ↓reduceIte, reduceCtorEq, eq_self, ne_eq, imp_self, forall_const, Nat.reduceEqDiff, Nat.reduceAdd, Nat.reduceSub, Nat.reduceMul, Nat.reduceLT, Nat.reduceLeDiff, Nat.reduceBEq, Nat.reduceDiv, Nat.reduceMod, Int.reduceToNat, Int.reduceNeg, Int.reduceAdd, Int.reduceSub, Int.reduceMul, Int.reduceEq, Int.reduceNe, Int.reduceLT, Int.reduceLE, Int.reduceGT, Int.reduceGE, hown, q1, q2]
      exact hquit (.inr (.inl g2))
    have q2 : decide (a ≥ (ns.length : Int)) = false := decide_eq_false g2
    obtain ⟨i, rfl⟩ := Int.eq_ofNat_of_zero_le (show 0 ≤ a by omega)
    have hi : i < ns.length := by omega
    have him : i < m.length := by omega
    simp -implicitDefEqProofs (maxSteps := 1000000) (disch := omega) only [↓xsP, ↓vc_seq, xsQ, xsT, xsR, xsD, ↓reduceIte, reduceCtorEq, eq_self, ne_eq, imp_self, forall_const, Nat.reduceEqDiff, Nat.reduceAdd, Nat.reduceSub, Nat.reduceMul, Nat.reduceLT, Nat.reduceLeDiff, Nat.reduceBEq, Nat.reduceDiv, Nat.reduceMod, Int.reduceToNat, Int.reduceNeg, Int.reduceAdd, Int.reduceSub, Int.reduceMul, Int.reduceEq, Int.reduceNe, Int.reduceLT, Int.reduceLE, Int.reduceGT, Int.reduceGE, q1, q2, hown, hseen]
    cases hb : m.getD i default with
    | true =>
      simp -implicitDefEqProofs (maxSteps := 1000000) (disch := omega) only [↓xsP, ↓vc_seq, xsQ, xsT, xsR, xsD, ↓reduceIte, reduceCtorEq, eq_self, ne_eq, imp_self, forall_const, Nat.reduceEqDiff, Nat.reduceAdd, Nat.reduceSub, Nat.reduceMul, Nat.reduceLT, Nat.reduceLeDiff, Nat.reduceBEq, Nat.reduceDiv, Nat.reduceMod, Int.reduceToNat, Int.reduceNeg, Int.reduceAdd, Int.reduceSub, Int.reduceMul, Int.reduceEq, Int.reduceNe, Int.reduceLT, Int.reduceLE, Int.reduceGT, Int.reduceGE, hown]
      exact hquit (.inr (.inr (by rw [Int.toNat_natCast]; exact hb)))
    | false =>
    have hgo : ¬ ((i : Int) < 0 ∨ (ns.length : Int) ≤ i ∨ m.getD (i : Int).toNat false = true) := by
      rw [Int.toNat_natCast]
      rintro (h | h | h)
      · omega
      · omega
      · rw [show m.getD i false = false from hb] at h
        cases h
    have hus := unmet_set him hb
    have hpx := hp _ (getD_mem' ns default hi)
    obtain ⟨nd, hnd⟩ : ∃ nd, ns.getD i default = nd := ⟨_, rfl⟩
    obtain ⟨m1, hm1⟩ : ∃ m1, m.set i true = m1 := ⟨_, rfl⟩
    have hmay : mayS ns (f + 1) (m, n) (i : Int) k = (if nd.route = false then (bof (LeafOk nd k), (m1, n + 1)) else if bof (ForkOk nd k) = false then (false, (m1, n + 1)) else
        if (mayS ns f (m1, n + 1) nd.left (k.lo nd.key)).1 = true then mayS ns f (mayS ns f (m1, n + 1) nd.left (k.lo nd.key)).2 nd.right (k.hi nd.key) else (false, (mayS ns f (m1, n + 1) nd.left (k.lo nd.key)).2)) := by
      rw [mayS, if_neg hgo]
      simp only [Int.toNat_natCast, hnd, hm1]
    clear hgo hquit
    rw [hnd] at hpx
    have hm1r : (m.map brow).set i [.bool true] = m1.map brow := by rw [← hm1, List.map_set]; rfl
    have hm1l : m1.length = ns.length := by rw [← hm1, List.length_set]; exact hl
    rw [hm1] at hus
    have hP1 := hP.setseen m1
    rw [mtB] at hP1
    have hln : ∀ X : Mem, lenA Go.Proofs.Tryd.prog X 22 (.l x) = some (.l (.int .i64 rows.length)) := fun X => by
      rcases hP.nds with ⟨rfl, rfl⟩ | ⟨idn, rfl, _, _⟩ <;> simp only [lenA, ti_22] <;> rfl
    simp only [lenA, ti_22] at hln
    simp -implicitDefEqProofs (maxSteps := 1000000) (disch := omega) only [↓xsP, ↓vc_seq, xsQ, xsT, xsR, xsD, ↓reduceIte, reduceCtorEq, eq_self, ne_eq, imp_self, forall_const, Nat.reduceEqDiff, Nat.reduceAdd, Nat.reduceSub, Nat.reduceMul, Nat.reduceLT, Nat.reduceLeDiff, Nat.reduceBEq, Nat.reduceDiv, Nat.reduceMod, Int.reduceToNat, Int.reduceNeg, Int.reduceAdd, Int.reduceSub, Int.reduceMul, Int.reduceEq, Int.reduceNe, Int.reduceLT, Int.reduceLE, Int.reduceGT, Int.reduceGE, hown, hseen, q1, hnd, hm1r]
    refine newI_intro fun id9 hid9 => ?_
    have hP2 := hP1.new hid9 (.cells 46 [nd.row] 0)
    have k9i := lt_of_bnd hid9 hP1.own
    have k9s := lt_of_bnd hid9 hP1.seen
    have h99 := Mem.set_eq (N.set ids (.cells 4 (m1.map brow) 0)) id9 (.cells 46 [nd.row] 0)
    have hB9 : B id9 = none := by
      cases hb' : B id9 with
      | none => rfl
      | some bk =>
        have := hP1.le _ _ hb'
        rw [hid9 id9 (Nat.le_refl _)] at this
        cases this
    rw [row_nd] at hP2 h99
    simp -implicitDefEqProofs (maxSteps := 1000000) (disch := omega) only [↓xsP, ↓vc_seq, xsQ, xsT, xsR, xsD, ↓reduceIte, reduceCtorEq, eq_self, ne_eq, imp_self, forall_const, Nat.reduceEqDiff, Nat.reduceAdd, Nat.reduceSub, Nat.reduceMul, Nat.reduceLT, Nat.reduceLeDiff, Nat.reduceBEq, Nat.reduceDiv, Nat.reduceMod, Int.reduceToNat, Int.reduceNeg, Int.reduceAdd, Int.reduceSub, Int.reduceMul, Int.reduceEq, Int.reduceNe, Int.reduceLT, Int.reduceLE, Int.reduceGT, Int.reduceGE, hown, hseen, q1, hnd, hm1r]
    generalize (N.set ids (.cells 4 (m1.map brow) 0)).set id9 (.cells 46 [[.bool nd.route, .int .i64 nd.key, .int .i64 nd.left, .int .i64 nd.right, .sl (nd.pairs.map Pr.row), .int .i64 nd.stat]] 0) = N2 at hP2 h99 ⊢
    have hown2 := hP2.own
    rw [plB] at hown2
    simp -implicitDefEqProofs (maxSteps := 1000000) (disch := omega) only [↓xsP, ↓vc_seq, xsQ, xsT, xsR, xsD, ↓reduceIte, reduceCtorEq, eq_self, ne_eq, imp_self, forall_const, Nat.reduceEqDiff, Nat.reduceAdd, Nat.reduceSub, Nat.reduceMul, Nat.reduceLT, Nat.reduceLeDiff, Nat.reduceBEq, Nat.reduceDiv, Nat.reduceMod, Int.reduceToNat, Int.reduceNeg, Int.reduceAdd, Int.reduceSub, Int.reduceMul, Int.reduceEq, Int.reduceNe, Int.reduceLT, Int.reduceLE, Int.reduceGT, Int.reduceGE, hown2, h99, hln]
    obtain ⟨lo, hlo⟩ : ∃ lo, loL k = lo := ⟨_, rfl⟩
    obtain ⟨hi', hhi⟩ : ∃ hi', hiL k = hi' := ⟨_, rfl⟩
    cases hro : nd.route with
    | false =>
      rw [hro, if_pos rfl] at hmay
      rw [hro] at h99
      simp -implicitDefEqProofs (maxSteps := 1000000) (disch := omega) only [↓xsP, xsQ, xsT, xsR, xsD, ↓reduceIte, reduceCtorEq, eq_self, ne_eq, imp_self, forall_const, Nat.reduceEqDiff, Nat.reduceAdd, Nat.reduceSub, Nat.reduceMul, Nat.reduceLT, Nat.reduceLeDiff, Nat.reduceBEq, Nat.reduceDiv, Nat.reduceMod, Int.reduceToNat, Int.reduceNeg, Int.reduceAdd, Int.reduceSub, Int.reduceMul, Int.reduceEq, Int.reduceNe, Int.reduceLT, Int.reduceLE, Int.reduceGT, Int.reduceGE, hown2, h99, hln]
      refine vc_cut (fun fr' N' => N' = N2.set id (plB root ns ids x (!bof (nd.key = 0 ∧ nd.left = 0 ∧ nd.right = 0 ∧ Rises nd.pairs ∧ -1000000 ≤ nd.stat ∧ nd.stat ≤ 1000000))) ∧ fr' 0 = .l (.ptr id 0 0) ∧ fr' 2 = .l (.sl ((loL k).map irow)) ∧ fr' 3 = .l (.sl ((hiL k).map irow)) ∧ fr' 9 = .l (.ptr id9 0 0) ∧ fr' 10 = .l (.int .i64 rows.length)) ?_ ?_
      · have hend : ∀ b : Bool, b = !bof (nd.key = 0 ∧ nd.left = 0 ∧ nd.right = 0 ∧ Rises nd.pairs ∧ -1000000 ≤ nd.stat ∧ nd.stat ≤ 1000000) → N2.set id (.cells 82 [[.int .i64 root, .sl (ns.map Nd.row), x, .ms ids 0 ns.length, .bool b]] 0) = N2.set id (plB root ns ids x (!bof (nd.key = 0 ∧ nd.left = 0 ∧ nd.right = 0 ∧ Rises nd.pairs ∧ -1000000 ≤ nd.stat ∧ nd.stat ≤ 1000000))) := fun b hb => by rw [hb, plB]
        by_cases l1 : nd.key = 0
        rotate_left
        · have w1 : decide (¬ nd.key = 0) = true := decide_eq_true l1
          simp -implicitDefEqProofs (maxSteps := 1000000) (disch := omega) only [↓xsP, ↓vc_seq, xsQ, xsT, xsR, xsD, ↓reduceIte, reduceCtorEq, eq_self, ne_eq, imp_self, forall_const, Nat.reduceEqDiff, Nat.reduceAdd, Nat.reduceSub, Nat.reduceMul, Nat.reduceLT, Nat.reduceLeDiff, Nat.reduceBEq, Nat.reduceDiv, Nat.reduceMod, Int.reduceToNat, Int.reduceNeg, Int.reduceAdd, Int.reduceSub, Int.reduceMul, Int.reduceEq, Int.reduceNe, Int.reduceLT, Int.reduceLE, Int.reduceGT, Int.reduceGE, hown2, h99, w1]
          exact hend true (by rw [bof_false fun h => l1 h.1]; rfl)
        have w1 : decide (¬ nd.key = 0) = false := decide_eq_false (fun h => h l1)
        by_cases l2 : nd.left = 0
        rotate_left
        · have w2 : decide (¬ nd.left = 0) = true := decide_eq_true l2
          simp -implicitDefEqProofs (maxSteps := 1000000) (disch := omega) only [↓xsP, ↓vc_seq, xsQ, xsT, xsR, xsD, ↓reduceIte, reduceCtorEq, eq_self, ne_eq, imp_self, forall_const, Nat.reduceEqDiff, Nat.reduceAdd, Nat.reduceSub, Nat.reduceMul, Nat.reduceLT, Nat.reduceLeDiff, Nat.reduceBEq, Nat.reduceDiv, Nat.reduceMod, Int.reduceToNat, Int.reduceNeg, Int.reduceAdd, Int.reduceSub, Int.reduceMul, Int.reduceEq, Int.reduceNe, Int.reduceLT, Int.reduceLE, Int.reduceGT, Int.reduceGE, hown2, h99, w1, w2]
          exact hend true (by rw [bof_false fun h => l2 h.2.1]; rfl)
        have w2 : decide (¬ nd.left = 0) = false := decide_eq_false (fun h => h l2)
        by_cases l3 : nd.right = 0
        rotate_left
        · have w3 : decide (¬ nd.right = 0) = true := decide_eq_true l3
          simp -implicitDefEqProofs (maxSteps := 1000000) (disch := omega) only [↓xsP, ↓vc_seq, xsQ, xsT, xsR, xsD, ↓reduceIte, reduceCtorEq, eq_self, ne_eq, imp_self, forall_const, Nat.reduceEqDiff, Nat.reduceAdd, Nat.reduceSub, Nat.reduceMul, Nat.reduceLT, Nat.reduceLeDiff, Nat.reduceBEq, Nat.reduceDiv, Nat.reduceMod, Int.reduceToNat, Int.reduceNeg, Int.reduceAdd, Int.reduceSub, Int.reduceMul, Int.reduceEq, Int.reduceNe, Int.reduceLT, Int.reduceLE, Int.reduceGT, Int.reduceGE, hown2, h99, w1, w2, w3]
          exact hend true (by rw [bof_false fun h => l3 h.2.2.1]; rfl)
        have w3 : decide (¬ nd.right = 0) = false := decide_eq_false (fun h => h l3)
        simp -implicitDefEqProofs (maxSteps := 1000000) (disch := omega) only [↓xsP, ↓vc_seq, xsQ, xsT, xsR, xsD, ↓reduceIte, reduceCtorEq, eq_self, ne_eq, imp_self, forall_const, Nat.reduceEqDiff, Nat.reduceAdd, Nat.reduceSub, Nat.reduceMul, Nat.reduceLT, Nat.reduceLeDiff, Nat.reduceBEq, Nat.reduceDiv, Nat.reduceMod, Int.reduceToNat, Int.reduceNeg, Int.reduceAdd, Int.reduceSub, Int.reduceMul, Int.reduceEq, Int.reduceNe, Int.reduceLT, Int.reduceLE, Int.reduceGT, Int.reduceGE, hown2, h99, w1, w2, w3]
        refine call_of (mayPairs_spec nd.pairs (by omega) _) ?_
        by_cases l4 : Rises nd.pairs
        rotate_left
        · rw [bof_false l4]
          simp -implicitDefEqProofs (maxSteps := 1000000) (disch := omega) only [↓xsP, ↓vc_seq, xsQ, xsT, xsR, xsD, ↓reduceIte, reduceCtorEq, eq_self, ne_eq, imp_self, forall_const, Nat.reduceEqDiff, Nat.reduceAdd, Nat.reduceSub, Nat.reduceMul, Nat.reduceLT, Nat.reduceLeDiff, Nat.reduceBEq, Nat.reduceDiv, Nat.reduceMod, Int.reduceToNat, Int.reduceNeg, Int.reduceAdd, Int.reduceSub, Int.reduceMul, Int.reduceEq, Int.reduceNe, Int.reduceLT, Int.reduceLE, Int.reduceGT, Int.reduceGE, hown2, h99]
          exact hend true (by rw [bof_false fun h => l4 h.2.2.2.1]; rfl)
        rw [bof_true l4]
        by_cases l5 : -1000000 ≤ nd.stat
        rotate_left
        · have w5 : decide (nd.stat < -1000000) = true := decide_eq_true (by omega)
          simp -implicitDefEqProofs (maxSteps := 1000000) (disch := omega) only [↓xsP, ↓vc_seq, xsQ, xsT, xsR, xsD, ↓reduceIte, reduceCtorEq, eq_self, ne_eq, imp_self, forall_const, Nat.reduceEqDiff, Nat.reduceAdd, Nat.reduceSub, Nat.reduceMul, Nat.reduceLT, Nat.reduceLeDiff, Nat.reduceBEq, Nat.reduceDiv, Nat.reduceMod, Int.reduceToNat, Int.reduceNeg, Int.reduceAdd, Int.reduceSub, Int.reduceMul, Int.reduceEq, Int.reduceNe, Int.reduceLT, Int.reduceLE, Int.reduceGT, Int.reduceGE, hown2, h99, w5]
          exact hend true (by rw [bof_false fun h => l5 h.2.2.2.2.1]; rfl)
        have w5 : decide (nd.stat < -1000000) = false := decide_eq_false (by omega)
        by_cases l6 : nd.stat ≤ 1000000
        rotate_left
        · have w6 : decide (nd.stat > 1000000) = true := decide_eq_true (by omega)
          simp -implicitDefEqProofs (maxSteps := 1000000) (disch := omega) only [↓xsP, ↓vc_seq, xsQ, xsT, xsR, xsD, ↓reduceIte, reduceCtorEq, eq_self, ne_eq, imp_self, forall_const, Nat.reduceEqDiff, Nat.reduceAdd, Nat.reduceSub, Nat.reduceMul, Nat.reduceLT, Nat.reduceLeDiff, Nat.reduceBEq, Nat.reduceDiv, Nat.reduceMod, Int.reduceToNat, Int.reduceNeg, Int.reduceAdd, Int.reduceSub, Int.reduceMul, Int.reduceEq, Int.reduceNe, Int.reduceLT, Int.reduceLE, Int.reduceGT, Int.reduceGE, hown2, h99, w5, w6]
          exact hend true (by rw [bof_false fun h => l6 h.2.2.2.2.2]; rfl)
        have w6 : decide (nd.stat > 1000000) = false := decide_eq_false (by omega)
        simp -implicitDefEqProofs (maxSteps := 1000000) (disch := omega) only [↓xsP, ↓vc_seq, xsQ, xsT, xsR, xsD, ↓reduceIte, reduceCtorEq, eq_self, ne_eq, imp_self, forall_const, Nat.reduceEqDiff, Nat.reduceAdd, Nat.reduceSub, Nat.reduceMul, Nat.reduceLT, Nat.reduceLeDiff, Nat.reduceBEq, Nat.reduceDiv, Nat.reduceMod, Int.reduceToNat, Int.reduceNeg, Int.reduceAdd, Int.reduceSub, Int.reduceMul, Int.reduceEq, Int.reduceNe, Int.reduceLT, Int.reduceLE, Int.reduceGT, Int.reduceGE, hown2, h99, w5, w6]
        exact hend false (by rw [bof_true ⟨l1, l2, l3, l4, l5, l6⟩]; rfl)
      · rintro fr N3 ⟨rfl, f0, f2, f3, f9, f10⟩
        obtain ⟨bb, hbb⟩ : ∃ bb, bof (nd.key = 0 ∧ nd.left = 0 ∧ nd.right = 0 ∧ Rises nd.pairs ∧ -1000000 ≤ nd.stat ∧ nd.stat ≤ 1000000) = bb := ⟨_, rfl⟩
        rw [hbb]
        have hP3 := hP2.setbad (!bb)
        have h9i : id9 ≠ id := by omega
        have h93 : (N2.set id (plB root ns ids x (!bb))) id9 = some (.cells 46 [[.bool false, .int .i64 nd.key, .int .i64 nd.left, .int .i64 nd.right, .sl (nd.pairs.map Pr.row), .int .i64 nd.stat]] 0) := by
          rw [Mem.set_ne _ _ _ _ (Ne.symm h9i)]; exact h99
        generalize N2.set id (plB root ns ids x (!bb)) = N3 at hP3 h93 ⊢
        simp -implicitDefEqProofs (maxSteps := 1000000) (disch := omega) only [↓xsP, ↓vc_seq, xsQ, xsT, xsR, xsD, ↓reduceIte, reduceCtorEq, eq_self, ne_eq, imp_self, forall_const, Nat.reduceEqDiff, Nat.reduceAdd, Nat.reduceSub, Nat.reduceMul, Nat.reduceLT, Nat.reduceLeDiff, Nat.reduceBEq, Nat.reduceDiv, Nat.reduceMod, Int.reduceToNat, Int.reduceNeg, Int.reduceAdd, Int.reduceSub, Int.reduceMul, Int.reduceEq, Int.reduceNe, Int.reduceLT, Int.reduceLE, Int.reduceGT, Int.reduceGE, f0, f2, f3, f9, f10, h93]
        refine loopI_of (xloop (by kernel_rfl) (fun kk fr N' => ∃ j : Nat, j ≤ nd.pairs.length ∧ kk = nd.pairs.length - j ∧ PSt B N' root ns id ids m1 rows x (!(bb && (nd.pairs.take j).all fun p => k.has p.key)) ∧ N' id9 = some (.cells 46 [[.bool false, .int .i64 nd.key, .int .i64 nd.left, .int .i64 nd.right, .sl (nd.pairs.map Pr.row), .int .i64 nd.stat]] 0) ∧ fr 0 = .l (.ptr id 0 0) ∧ fr 2 = .l (.sl ((loL k).map irow)) ∧ fr 3 = .l (.sl ((hiL k).map irow)) ∧ fr 9 = .l (.ptr id9 0 0) ∧ fr 10 = .l (.int .i64 rows.length) ∧ fr 100 = .l (.sl (nd.pairs.map Pr.row)) ∧ fr 101 = .l (.int .i64 nd.pairs.length) ∧ fr 102 = .l (.int .i64 j)) nd.pairs.length ?_ ?_)
        · refine ⟨0, Nat.zero_le _, rfl, ?_, h93, by simp -implicitDefEqProofs (maxSteps := 1000000) (disch := omega) only [↓xsP, ↓vc_seq, xsQ, xsT, xsR, xsD, ↓reduceIte, reduceCtorEq, eq_self, ne_eq, imp_self, forall_const, Nat.reduceEqDiff, Nat.reduceAdd, Nat.reduceSub, Nat.reduceMul, Nat.reduceLT, Nat.reduceLeDiff, Nat.reduceBEq, Nat.reduceDiv, Nat.reduceMod, Int.reduceToNat, Int.reduceNeg, Int.reduceAdd, Int.reduceSub, Int.reduceMul, Int.reduceEq, Int.reduceNe, Int.reduceLT, Int.reduceLE, Int.reduceGT, Int.reduceGE, f0], by simp -implicitDefEqProofs (maxSteps := 1000000) (disch := omega) only [↓xsP, ↓vc_seq, xsQ, xsT, xsR, xsD, ↓reduceIte, reduceCtorEq, eq_self, ne_eq, imp_self, forall_const, Nat.reduceEqDiff, Nat.reduceAdd, Nat.reduceSub, Nat.reduceMul, Nat.reduceLT, Nat.reduceLeDiff, Nat.reduceBEq, Nat.reduceDiv, Nat.reduceMod, Int.reduceToNat, Int.reduceNeg, Int.reduceAdd, Int.reduceSub, Int.reduceMul, Int.reduceEq, Int.reduceNe, Int.reduceLT, Int.reduceLE, Int.reduceGT, Int.reduceGE, f2], by simp -implicitDefEqProofs (maxSteps := 1000000) (disch := omega) only [↓xsP, ↓vc_seq, xsQ, xsT, xsR, xsD, ↓reduceIte, reduceCtorEq, eq_self, ne_eq, imp_self, forall_const, Nat.reduceEqDiff, Nat.reduceAdd, Nat.reduceSub, Nat.reduceMul, Nat.reduceLT, Nat.reduceLeDiff, Nat.reduceBEq, Nat.reduceDiv, Nat.reduceMod, Int.reduceToNat, Int.reduceNeg, Int.reduceAdd, Int.reduceSub, Int.reduceMul, Int.reduceEq, Int.reduceNe, Int.reduceLT, Int.reduceLE, Int.reduceGT, Int.reduceGE, f3], by simp -implicitDefEqProofs (maxSteps := 1000000) (disch := omega) only [↓xsP, ↓vc_seq, xsQ, xsT, xsR, xsD, ↓reduceIte, reduceCtorEq, eq_self, ne_eq, imp_self, forall_const, Nat.reduceEqDiff, Nat.reduceAdd, Nat.reduceSub, Nat.reduceMul, Nat.reduceLT, Nat.reduceLeDiff, Nat.reduceBEq, Nat.reduceDiv, Nat.reduceMod, Int.reduceToNat, Int.reduceNeg, Int.reduceAdd, Int.reduceSub, Int.reduceMul, Int.reduceEq, Int.reduceNe, Int.reduceLT, Int.reduceLE, Int.reduceGT, Int.reduceGE, f9], by simp -implicitDefEqProofs (maxSteps := 1000000) (disch := omega) only [↓xsP, ↓vc_seq, xsQ, xsT, xsR, xsD, ↓reduceIte, reduceCtorEq, eq_self, ne_eq, imp_self, forall_const, Nat.reduceEqDiff, Nat.reduceAdd, Nat.reduceSub, Nat.reduceMul, Nat.reduceLT, Nat.reduceLeDiff, Nat.reduceBEq, Nat.reduceDiv, Nat.reduceMod, Int.reduceToNat, Int.reduceNeg, Int.reduceAdd, Int.reduceSub, Int.reduceMul, Int.reduceEq, Int.reduceNe, Int.reduceLT, Int.reduceLE, Int.reduceGT, Int.reduceGE, f10], by simp -implicitDefEqProofs (maxSteps := 1000000) (disch := omega) only [↓xsP, ↓vc_seq, xsQ, xsT, xsR, xsD, ↓reduceIte, reduceCtorEq, eq_self, ne_eq, imp_self, forall_const, Nat.reduceEqDiff, Nat.reduceAdd, Nat.reduceSub, Nat.reduceMul, Nat.reduceLT, Nat.reduceLeDiff, Nat.reduceBEq, Nat.reduceDiv, Nat.reduceMod, Int.reduceToNat, Int.reduceNeg, Int.reduceAdd, Int.reduceSub, Int.reduceMul, Int.reduceEq, Int.reduceNe, Int.reduceLT, Int.reduceLE, Int.reduceGT, Int.reduceGE], by simp -implicitDefEqProofs (maxSteps := 1000000) (disch := omega) only [↓xsP, ↓vc_seq, xsQ, xsT, xsR, xsD, ↓reduceIte, reduceCtorEq, eq_self, ne_eq, imp_self, forall_const, Nat.reduceEqDiff, Nat.reduceAdd, Nat.reduceSub, Nat.reduceMul, Nat.reduceLT, Nat.reduceLeDiff, Nat.reduceBEq, Nat.reduceDiv, Nat.reduceMod, Int.reduceToNat, Int.reduceNeg, Int.reduceAdd, Int.reduceSub, Int.reduceMul, Int.reduceEq, Int.reduceNe, Int.reduceLT, Int.reduceLE, Int.reduceGT, Int.reduceGE], by simp -implicitDefEqProofs (maxSteps := 1000000) (disch := omega) only [↓xsP, ↓vc_seq, xsQ, xsT, xsR, xsD, ↓reduceIte, reduceCtorEq, eq_self, ne_eq, imp_self, forall_const, Nat.reduceEqDiff, Nat.reduceAdd, Nat.reduceSub, Nat.reduceMul, Nat.reduceLT, Nat.reduceLeDiff, Nat.reduceBEq, Nat.reduceDiv, Nat.reduceMod, Int.reduceToNat, Int.reduceNeg, Int.reduceAdd, Int.reduceSub, Int.reduceMul, Int.reduceEq, Int.reduceNe, Int.reduceLT, Int.reduceLE, Int.reduceGT, Int.reduceGE, Int.cast_ofNat_Int]⟩
          rw [List.take_zero, List.all_nil, Bool.and_true]
          exact hP3
        clear f0 f2 f3 f9 f10
        rintro kk fr N4 ⟨j, hj, rfl, hP4, h94, f0, f2, f3, f9, f10, f100, f101, f102⟩
        simp -implicitDefEqProofs (maxSteps := 1000000) (disch := omega) only [↓xsP, ↓vc_seq, xsQ, xsT, xsR, xsD, ↓reduceIte, reduceCtorEq, eq_self, ne_eq, imp_self, forall_const, Nat.reduceEqDiff, Nat.reduceAdd, Nat.reduceSub, Nat.reduceMul, Nat.reduceLT, Nat.reduceLeDiff, Nat.reduceBEq, Nat.reduceDiv, Nat.reduceMod, Int.reduceToNat, Int.reduceNeg, Int.reduceAdd, Int.reduceSub, Int.reduceMul, Int.reduceEq, Int.reduceNe, Int.reduceLT, Int.reduceLE, Int.reduceGT, Int.reduceGE, f0, f2, f3, f9, f10, f100, f101, f102]
        refine condI_prop (fun hlt => ?_) (fun hlt => ?_)
        · have hjl : j < nd.pairs.length := by omega
          obtain ⟨p, hp'⟩ : ∃ p, nd.pairs.getD j default = p := ⟨_, rfl⟩
          simp -implicitDefEqProofs (maxSteps := 1000000) (disch := omega) only [↓xsP, ↓vc_seq, xsQ, xsT, xsR, xsD, ↓reduceIte, reduceCtorEq, eq_self, ne_eq, imp_self, forall_const, Nat.reduceEqDiff, Nat.reduceAdd, Nat.reduceSub, Nat.reduceMul, Nat.reduceLT, Nat.reduceLeDiff, Nat.reduceBEq, Nat.reduceDiv, Nat.reduceMod, Int.reduceToNat, Int.reduceNeg, Int.reduceAdd, Int.reduceSub, Int.reduceMul, Int.reduceEq, Int.reduceNe, Int.reduceLT, Int.reduceLE, Int.reduceGT, Int.reduceGE, f0, f2, f3, f9, f10, f100, f101, f102, hp']
          refine newI_intro fun id12 hid12 => ?_
          have hP5 := hP4.new hid12 (.cells 79 [[.int .i64 p.key, .int .i64 p.val]] 0)
          have k912 := lt_of_bnd hid12 h94
          have h12 := Mem.set_eq N4 id12 (.cells 79 [[.int .i64 p.key, .int .i64 p.val]] 0)
          simp -implicitDefEqProofs (maxSteps := 1000000) (disch := omega) only [↓xsP, ↓vc_seq, xsQ, xsT, xsR, xsD, ↓reduceIte, reduceCtorEq, eq_self, ne_eq, imp_self, forall_const, Nat.reduceEqDiff, Nat.reduceAdd, Nat.reduceSub, Nat.reduceMul, Nat.reduceLT, Nat.reduceLeDiff, Nat.reduceBEq, Nat.reduceDiv, Nat.reduceMod, Int.reduceToNat, Int.reduceNeg, Int.reduceAdd, Int.reduceSub, Int.reduceMul, Int.reduceEq, Int.reduceNe, Int.reduceLT, Int.reduceLE, Int.reduceGT, Int.reduceGE, f0, f2, f3, f9, f10, f100, f101, f102, hp']
          obtain ⟨c, hc⟩ : ∃ c, (!(bb && (nd.pairs.take j).all fun p => k.has p.key)) = c := ⟨_, rfl⟩
          rw [hc] at hP5
          have hnext : (!(bb && (nd.pairs.take (j + 1)).all fun p => k.has p.key)) = (c || !k.has p.key) := by
            rw [take_sc nd.pairs default hjl, hp', List.all_append, ← hc]
            cases bb <;> simp
          have h95 : (N4.set id12 (.cells 79 [[.int .i64 p.key, .int .i64 p.val]] 0)) id9 = _ := (Mem.set_ne _ _ _ _ (by omega)).trans h94
          generalize N4.set id12 (.cells 79 [[.int .i64 p.key, .int .i64 p.val]] 0) = N5 at hP5 h12 h95 ⊢
          have hown5 := hP5.own
          rw [plB] at hown5
          have hgo : ∀ b : Bool, b = (c || !k.has p.key) → ∃ k' M', k' < nd.pairs.length - j ∧ M'.le (N5.set id (.cells 82 [[.int .i64 root, .sl (ns.map Nd.row), x, .ms ids 0 ns.length, .bool b]] 0)) ∧ ∃ j' : Nat, j' ≤ nd.pairs.length ∧ k' = nd.pairs.length - j' ∧ PSt B M' root ns id ids m1 rows x (!(bb && (nd.pairs.take j').all fun p => k.has p.key)) ∧ M' id9 = some (.cells 46 [[.bool false, .int .i64 nd.key, .int .i64 nd.left, .int .i64 nd.right, .sl (nd.pairs.map Pr.row), .int .i64 nd.stat]] 0) ∧ AV.l (.int .i64 ((j : Int) + 1)) = .l (.int .i64 j') := fun b hb => by
            refine ⟨nd.pairs.length - (j + 1), _, by omega, Mem.le_refl _, j + 1, by omega, rfl, ?_, ?_, by simp⟩
            · have := hP5.setbad b
              rw [hnext, ← hb]
              rw [plB] at this
              exact this
            · rw [Mem.set_ne _ _ _ _ (Ne.symm h9i)]; exact h95
          refine xwrite (fun n0 => [ (33, id)]) [33] [] [[], [], [], [], [], [], [], [], [], [], [], [], [], [], [], [], [], [], [], [], [], [], [], [], [], [], [], [], [], [], [], [], [], []] (by kernel_rfl) (by kernel_rfl) (by kernel_rfl) (by kernel_rfl) (fun n0 hn0 => ⟨rfl, ?_, ?_⟩)
          · exact TOk_cons (.inl (lt_of_bnd hn0 hP5.own)) (TOk_nil _ _)
          have yi := lt_of_bnd hn0 hP5.own
          have y12 := lt_of_bnd hn0 h12
          have k12i : id12 ≠ id := by omega
          cases c with
          | true =>
            simp -implicitDefEqProofs (maxSteps := 1000000) (disch := omega) only [↓xsP, ↓vc_seq, xsQ, xsT, xsR, xsD, ↓reduceIte, reduceCtorEq, eq_self, ne_eq, imp_self, forall_const, Nat.reduceEqDiff, Nat.reduceAdd, Nat.reduceSub, Nat.reduceMul, Nat.reduceLT, Nat.reduceLeDiff, Nat.reduceBEq, Nat.reduceDiv, Nat.reduceMod, Int.reduceToNat, Int.reduceNeg, Int.reduceAdd, Int.reduceSub, Int.reduceMul, Int.reduceEq, Int.reduceNe, Int.reduceLT, Int.reduceLE, Int.reduceGT, Int.reduceGE, f0, f2, f3, f9, f10, f100, f101, f102, hown5, h12]
            exact hgo true rfl
          | false =>
            simp -implicitDefEqProofs (maxSteps := 1000000) (disch := omega) only [↓xsP, ↓vc_seq, xsQ, xsT, xsR, xsD, ↓reduceIte, reduceCtorEq, eq_self, ne_eq, imp_self, forall_const, Nat.reduceEqDiff, Nat.reduceAdd, Nat.reduceSub, Nat.reduceMul, Nat.reduceLT, Nat.reduceLeDiff, Nat.reduceBEq, Nat.reduceDiv, Nat.reduceMod, Int.reduceToNat, Int.reduceNeg, Int.reduceAdd, Int.reduceSub, Int.reduceMul, Int.reduceEq, Int.reduceNe, Int.reduceLT, Int.reduceLE, Int.reduceGT, Int.reduceGE, f0, f2, f3, f9, f10, f100, f101, f102, hown5, h12]
            cases hL : k.isLeast with
            | false =>
              have w0 : decide (((loL k).length : Int) > 0) = false := decide_eq_false (by rw [loL, hL]; simp)
              simp -implicitDefEqProofs (maxSteps := 1000000) (disch := omega) only [↓xsP, ↓vc_seq, xsQ, xsT, xsR, xsD, ↓reduceIte, reduceCtorEq, eq_self, ne_eq, imp_self, forall_const, Nat.reduceEqDiff, Nat.reduceAdd, Nat.reduceSub, Nat.reduceMul, Nat.reduceLT, Nat.reduceLeDiff, Nat.reduceBEq, Nat.reduceDiv, Nat.reduceMod, Int.reduceToNat, Int.reduceNeg, Int.reduceAdd, Int.reduceSub, Int.reduceMul, Int.reduceEq, Int.reduceNe, Int.reduceLT, Int.reduceLE, Int.reduceGT, Int.reduceGE, f0, f2, f3, f9, f10, f100, f101, f102, hown5, h12, w0]
              cases hM : k.isMost with
              | false =>
                have v0 : decide (((hiL k).length : Int) > 0) = false := decide_eq_false (by rw [hiL, hM]; simp)
                simp -implicitDefEqProofs (maxSteps := 1000000) (disch := omega) only [↓xsP, ↓vc_seq, xsQ, xsT, xsR, xsD, ↓reduceIte, reduceCtorEq, eq_self, ne_eq, imp_self, forall_const, Nat.reduceEqDiff, Nat.reduceAdd, Nat.reduceSub, Nat.reduceMul, Nat.reduceLT, Nat.reduceLeDiff, Nat.reduceBEq, Nat.reduceDiv, Nat.reduceMod, Int.reduceToNat, Int.reduceNeg, Int.reduceAdd, Int.reduceSub, Int.reduceMul, Int.reduceEq, Int.reduceNe, Int.reduceLT, Int.reduceLE, Int.reduceGT, Int.reduceGE, f0, f2, f3, f9, f10, f100, f101, f102, hown5, h12, w0, v0]
                exact hgo false (by rw [Ks.has, hM]; simp [hL])
              | true =>
                have v0 : decide (((hiL k).length : Int) > 0) = true := decide_eq_true (by rw [hiL, hM]; simp)
                have v1 : 0 < (hiL k).length := by rw [hiL, hM]; simp
                have v2 : (hiL k).getD 0 default = k.most := by rw [hiL, hM]; rfl
                have v2' : ((hiL k).getD (Int.toNat 0) default) = k.most := v2
                by_cases hk2 : p.key ≥ k.most
                · have v3 : decide (p.key ≥ k.most) = true := decide_eq_true hk2
                  simp -implicitDefEqProofs (maxSteps := 1000000) (disch := omega) only [↓xsP, ↓vc_seq, xsQ, xsT, xsR, xsD, ↓reduceIte, reduceCtorEq, eq_self, ne_eq, imp_self, forall_const, Nat.reduceEqDiff, Nat.reduceAdd, Nat.reduceSub, Nat.reduceMul, Nat.reduceLT, Nat.reduceLeDiff, Nat.reduceBEq, Nat.reduceDiv, Nat.reduceMod, Int.reduceToNat, Int.reduceNeg, Int.reduceAdd, Int.reduceSub, Int.reduceMul, Int.reduceEq, Int.reduceNe, Int.reduceLT, Int.reduceLE, Int.reduceGT, Int.reduceGE, f0, f2, f3, f9, f10, f100, f101, f102, hown5, h12, w0, v0, v2, v2', v3]
                  exact hgo true (by rw [Ks.has, hM, decide_eq_false (show ¬ p.key < k.most by omega)]; simp)
                · have v3 : decide (p.key ≥ k.most) = false := decide_eq_false hk2
                  simp -implicitDefEqProofs (maxSteps := 1000000) (disch := omega) only [↓xsP, ↓vc_seq, xsQ, xsT, xsR, xsD, ↓reduceIte, reduceCtorEq, eq_self, ne_eq, imp_self, forall_const, Nat.reduceEqDiff, Nat.reduceAdd, Nat.reduceSub, Nat.reduceMul, Nat.reduceLT, Nat.reduceLeDiff, Nat.reduceBEq, Nat.reduceDiv, Nat.reduceMod, Int.reduceToNat, Int.reduceNeg, Int.reduceAdd, Int.reduceSub, Int.reduceMul, Int.reduceEq, Int.reduceNe, Int.reduceLT, Int.reduceLE, Int.reduceGT, Int.reduceGE, f0, f2, f3, f9, f10, f100, f101, f102, hown5, h12, w0, v0, v2, v2', v3]
                  exact hgo false (by rw [Ks.has, hM, decide_eq_true (show p.key < k.most by omega)]; simp [hL])
            | true =>
              have w0 : decide (((loL k).length : Int) > 0) = true := decide_eq_true (by rw [loL, hL]; simp)
              have w1 : 0 < (loL k).length := by rw [loL, hL]; simp
              have w2 : (loL k).getD 0 default = k.least := by rw [loL, hL]; rfl
              have w2' : ((loL k).getD (Int.toNat 0) default) = k.least := w2
              by_cases hk1 : p.key < k.least
              · have w3 : decide (p.key < k.least) = true := decide_eq_true hk1
                simp -implicitDefEqProofs (maxSteps := 1000000) (disch := omega) only [↓xsP, ↓vc_seq, xsQ, xsT, xsR, xsD, ↓reduceIte, reduceCtorEq, eq_self, ne_eq, imp_self, forall_const, Nat.reduceEqDiff, Nat.reduceAdd, Nat.reduceSub, Nat.reduceMul, Nat.reduceLT, Nat.reduceLeDiff, Nat.reduceBEq, Nat.reduceDiv, Nat.reduceMod, Int.reduceToNat, Int.reduceNeg, Int.reduceAdd, Int.reduceSub, Int.reduceMul, Int.reduceEq, Int.reduceNe, Int.reduceLT, Int.reduceLE, Int.reduceGT, Int.reduceGE, f0, f2, f3, f9, f10, f100, f101, f102, hown5, h12, w0, w2, w2', w3]
                exact hgo true (by rw [Ks.has, hL, decide_eq_false (show ¬ p.key ≥ k.least by omega)]; simp)
              · have w3 : decide (p.key < k.least) = false := decide_eq_false hk1
                have w4 : k.least ≤ p.key := by omega
                simp -implicitDefEqProofs (maxSteps := 1000000) (disch := omega) only [↓xsP, ↓vc_seq, xsQ, xsT, xsR, xsD, ↓reduceIte, reduceCtorEq, eq_self, ne_eq, imp_self, forall_const, Nat.reduceEqDiff, Nat.reduceAdd, Nat.reduceSub, Nat.reduceMul, Nat.reduceLT, Nat.reduceLeDiff, Nat.reduceBEq, Nat.reduceDiv, Nat.reduceMod, Int.reduceToNat, Int.reduceNeg, Int.reduceAdd, Int.reduceSub, Int.reduceMul, Int.reduceEq, Int.reduceNe, Int.reduceLT, Int.reduceLE, Int.reduceGT, Int.reduceGE, f0, f2, f3, f9, f10, f100, f101, f102, hown5, h12, w0, w2, w2', w3]
                cases hM : k.isMost with
                | false =>
                  have v0 : decide (((hiL k).length : Int) > 0) = false := decide_eq_false (by rw [hiL, hM]; simp)
                  simp -implicitDefEqProofs (maxSteps := 1000000) (disch := omega) only [↓xsP, ↓vc_seq, xsQ, xsT, xsR, xsD, ↓reduceIte, reduceCtorEq, eq_self, ne_eq, imp_self, forall_const, Nat.reduceEqDiff, Nat.reduceAdd, Nat.reduceSub, Nat.reduceMul, Nat.reduceLT, Nat.reduceLeDiff, Nat.reduceBEq, Nat.reduceDiv, Nat.reduceMod, Int.reduceToNat, Int.reduceNeg, Int.reduceAdd, Int.reduceSub, Int.reduceMul, Int.reduceEq, Int.reduceNe, Int.reduceLT, Int.reduceLE, Int.reduceGT, Int.reduceGE, f0, f2, f3, f9, f10, f100, f101, f102, hown5, h12, w0, w2, w2', w3, v0]
                  exact hgo false (by rw [Ks.has, hM]; simp [hL, w4])
                | true =>
                  have v0 : decide (((hiL k).length : Int) > 0) = true := decide_eq_true (by rw [hiL, hM]; simp)
                  have v1 : 0 < (hiL k).length := by rw [hiL, hM]; simp
                  have v2 : (hiL k).getD 0 default = k.most := by rw [hiL, hM]; rfl
                  have v2' : ((hiL k).getD (Int.toNat 0) default) = k.most := v2
                  by_cases hk2 : p.key ≥ k.most
                  · have v3 : decide (p.key ≥ k.most) = true := decide_eq_true hk2
                    simp -implicitDefEqProofs (maxSteps := 1000000) (disch := omega) only [↓xsP, ↓vc_seq, xsQ, xsT, xsR, xsD, ↓reduceIte, reduceCtorEq, eq_self, ne_eq, imp_self, forall_const, Nat.reduceEqDiff, Nat.reduceAdd, Nat.reduceSub, Nat.reduceMul, Nat.reduceLT, Nat.reduceLeDiff, Nat.reduceBEq, Nat.reduceDiv, Nat.reduceMod, Int.reduceToNat, Int.reduceNeg, Int.reduceAdd, Int.reduceSub, Int.reduceMul, Int.reduceEq, Int.reduceNe, Int.reduceLT, Int.reduceLE, Int.reduceGT, Int.reduceGE, f0, f2, f3, f9, f10, f100, f101, f102, hown5, h12, w0, w2, w2', w3, v0, v2, v2', v3]
                    exact hgo true (by rw [Ks.has, hM, decide_eq_false (show ¬ p.key < k.most by omega)]; simp)
                  · have v3 : decide (p.key ≥ k.most) = false := decide_eq_false hk2
                    simp -implicitDefEqProofs (maxSteps := 1000000) (disch := omega) only [↓xsP, ↓vc_seq, xsQ, xsT, xsR, xsD, ↓reduceIte, reduceCtorEq, eq_self, ne_eq, imp_self, forall_const, Nat.reduceEqDiff, Nat.reduceAdd, Nat.reduceSub, Nat.reduceMul, Nat.reduceLT, Nat.reduceLeDiff, Nat.reduceBEq, Nat.reduceDiv, Nat.reduceMod, Int.reduceToNat, Int.reduceNeg, Int.reduceAdd, Int.reduceSub, Int.reduceMul, Int.reduceEq, Int.reduceNe, Int.reduceLT, Int.reduceLE, Int.reduceGT, Int.reduceGE, f0, f2, f3, f9, f10, f100, f101, f102, hown5, h12, w0, w2, w2', w3, v0, v2, v2', v3]
                    exact hgo false (by rw [Ks.has, hM, decide_eq_true (show p.key < k.most by omega)]; simp [hL, w4])
        · have hjl : j = nd.pairs.length := by omega
          subst hjl
          rw [List.take_of_length_le (Nat.le_refl _)] at hP4
          have hfinal : (!(bb && nd.pairs.all fun p => k.has p.key)) = !bof (LeafOk nd k) := by
            rw [← hbb]
            congr 1
            rw [Bool.eq_iff_iff, Bool.and_eq_true, bof_iff, bof_iff, List.all_eq_true, LeafOk]
            constructor
            · rintro ⟨⟨a1, a2, a3, a4, a5, a6⟩, a7⟩
              exact ⟨a1, a2, a3, a4, a5, a6, a7⟩
            · rintro ⟨a1, a2, a3, a4, a5, a6, a7⟩
              exact ⟨⟨a1, a2, a3, a4, a5, a6⟩, a7⟩
          rw [hfinal] at hP4
          have hown4 := hP4.own
          rw [plB] at hown4
          have hgh : ∀ (N5 : Mem) (v : Lf), (nd.pairs = [] ∧ v = .nils ∧ N5 = N4) ∨ (∃ idq, v = .ms idq 0 nd.pairs.length ∧ (∀ j, idq ≤ j → N4 j = none) ∧ N5 = N4.set idq (.cells 79 (nd.pairs.map Pr.row) 0)) → ∃ N6, GStep (N5.set id9 (.cells 46 [[.bool false, .int .i64 nd.key, .int .i64 nd.left, .int .i64 nd.right, v, .int .i64 nd.stat]] 0)) N6 ∧ PSt B N6 root ns id ids m1 rows x (!bof (LeafOk nd k)) ∧ N6 id9 = some (.cells 46 [[.bool false, .int .i64 nd.key, .int .i64 nd.left, .int .i64 nd.right, .sl (nd.pairs.map Pr.row), .int .i64 nd.stat]] 0) := by
            have hx9 : ∀ idn, x = .ms idn 0 rows.length → idn ≠ id9 := fun idn h1 e => by
              rcases hP1.nds with ⟨_, hx⟩ | ⟨idn', hx, hm, _⟩
              · rw [hx] at h1; cases h1
              · rw [hx] at h1
                injection h1 with h1 _ _
                have := lt_of_bnd hid9 hm
                omega
            have h9s : id9 ≠ ids := by omega
            rintro N5 v (⟨he, rfl, rfl⟩ | ⟨idq, rfl, hq, rfl⟩)
            · have e1 : ([[.bool false, .int .i64 nd.key, .int .i64 nd.left, .int .i64 nd.right, .nils, .int .i64 nd.stat]].map fun r => r.map wkL : List (List Lf)) = [[.bool false, .int .i64 nd.key, .int .i64 nd.left, .int .i64 nd.right, .sl (nd.pairs.map Pr.row), .int .i64 nd.stat]] := by rw [he]; rfl
              have g := GStep.wk (Mem.set_eq N5 id9 (.cells 46 [[.bool false, .int .i64 nd.key, .int .i64 nd.left, .int .i64 nd.right, .nils, .int .i64 nd.stat]] 0))
              rw [e1, Mem.set_set] at g
              exact ⟨_, g, hP4.other h9i h9s hx9 hB9 _, Mem.set_eq _ _ _⟩
            · have k9q := lt_of_bnd hq h94
              have kiq := lt_of_bnd hq hP4.own
              have ksq := lt_of_bnd hq hP4.seen
              have hBq : B idq = none := by
                cases hb' : B idq with
                | none => rfl
                | some bk =>
                  have := hP4.le _ _ hb'
                  rw [hq idq (Nat.le_refl _)] at this
                  cases this
              have hxq : ∀ idn, x = .ms idn 0 rows.length → idn ≠ idq := fun idn h1 e => by
                rcases hP4.nds with ⟨_, hx⟩ | ⟨idn', hx, hm, _⟩
                · rw [hx] at h1; cases h1
                · rw [hx] at h1
                  injection h1 with h1 _ _
                  have := lt_of_bnd hq hm
                  omega
              have e1 : ([[.bool false, .int .i64 nd.key, .int .i64 nd.left, .int .i64 nd.right, .ms idq 0 nd.pairs.length, .int .i64 nd.stat]].map fun r => r.map (frzL idq (nd.pairs.map Pr.row)) : List (List Lf)) = [[.bool false, .int .i64 nd.key, .int .i64 nd.left, .int .i64 nd.right, .sl (nd.pairs.map Pr.row), .int .i64 nd.stat]] := by
                have e2 : ((nd.pairs.map Pr.row).drop 0).take nd.pairs.length = nd.pairs.map Pr.row := by rw [List.drop_zero, List.take_of_length_le (by simp)]
                simp only [List.map_cons, List.map_nil, frzL, true_and, List.length_map, Nat.zero_add, Nat.le_refl, if_true, e2]
              have g := GStep.frz_in (M := (N4.set idq (.cells 79 (nd.pairs.map Pr.row) 0)).set id9 (.cells 46 [[.bool false, .int .i64 nd.key, .int .i64 nd.left, .int .i64 nd.right, .ms idq 0 nd.pairs.length, .int .i64 nd.stat]] 0)) (id := idq) (out := id9) ((Mem.set_ne _ _ _ _ (by omega)).trans (Mem.set_eq _ _ _)) (Mem.set_eq _ _ _) (by omega)
              rw [e1] at g
              refine ⟨_, g, ?_, Mem.set_eq _ _ _⟩
              exact (((hP4.other (by omega) (by omega) hxq hBq _).other h9i h9s hx9 hB9 _).other (by omega) (by omega) hxq hBq _).other h9i h9s hx9 hB9 _
          have hend : ∀ (N5 : Mem) (v : Lf), ((nd.pairs = [] ∧ v = .nils ∧ N5 = N4) ∨ (∃ idq, v = .ms idq 0 nd.pairs.length ∧ (∀ j, idq ≤ j → N4 j = none) ∧ N5 = N4.set idq (.cells 79 (nd.pairs.map Pr.row) 0))) → N5 id9 = some (.cells 46 [[.bool false, .int .i64 nd.key, .int .i64 nd.left, .int .i64 nd.right, .sl (nd.pairs.map Pr.row), .int .i64 nd.stat]] 0) := fun N5 v h => by
            rcases h with ⟨_, _, rfl⟩ | ⟨idq, _, hq, rfl⟩
            · exact h94
            · have := lt_of_bnd hq h94
              rw [Mem.set_ne _ _ _ _ (by omega)]; exact h94
          simp -implicitDefEqProofs (maxSteps := 1000000) (disch := omega) only [↓xsP, xsQ, xsT, xsR, xsD, ↓reduceIte, reduceCtorEq, eq_self, ne_eq, imp_self, forall_const, Nat.reduceEqDiff, Nat.reduceAdd, Nat.reduceSub, Nat.reduceMul, Nat.reduceLT, Nat.reduceLeDiff, Nat.reduceBEq, Nat.reduceDiv, Nat.reduceMod, Int.reduceToNat, Int.reduceNeg, Int.reduceAdd, Int.reduceSub, Int.reduceMul, Int.reduceEq, Int.reduceNe, Int.reduceLT, Int.reduceLE, Int.reduceGT, Int.reduceGE, f0, f2, f3, f9, f10, f100, f101, f102, h94]
          refine vc_cut (fun fr' N' => ∃ N5 v, ((nd.pairs = [] ∧ v = .nils ∧ N5 = N4) ∨ (∃ idq, v = .ms idq 0 nd.pairs.length ∧ (∀ j, idq ≤ j → N4 j = none) ∧ N5 = N4.set idq (.cells 79 (nd.pairs.map Pr.row) 0))) ∧ N' = N5.set id9 (.cells 46 [[.bool false, .int .i64 nd.key, .int .i64 nd.left, .int .i64 nd.right, v, .int .i64 nd.stat]] 0) ∧ fr' 0 = .l (.ptr id 0 0) ∧ fr' 9 = .l (.ptr id9 0 0) ∧ fr' 10 = .l (.int .i64 rows.length)) ?_ ?_
          · simp -implicitDefEqProofs (maxSteps := 1000000) (disch := omega) only [↓xsP, ↓vc_seq, xsQ, xsT, xsR, xsD, ↓reduceIte, reduceCtorEq, eq_self, ne_eq, imp_self, forall_const, Nat.reduceEqDiff, Nat.reduceAdd, Nat.reduceSub, Nat.reduceMul, Nat.reduceLT, Nat.reduceLeDiff, Nat.reduceBEq, Nat.reduceDiv, Nat.reduceMod, Int.reduceToNat, Int.reduceNeg, Int.reduceAdd, Int.reduceSub, Int.reduceMul, Int.reduceEq, Int.reduceNe, Int.reduceLT, Int.reduceLE, Int.reduceGT, Int.reduceGE, f0, f2, f3, f9, f10, f100, f101, f102, h94]
            refine app_nils _ _ _ _ 79 _ _ ti_44 rfl ti_79 (by kernel_rfl) (by decide) _ (nd.pairs.map Pr.row) ?_ ?_ ?_ (fun he => ?_) (fun hne' idq hq => ?_)
            · simp only [srcRows, if_true]
              rw [if_pos (fun r hr => by obtain ⟨p, _, rfl⟩ := List.mem_map.1 hr; rfl)]
            · rw [List.length_map]; show nd.pairs.length * 16 ≤ _; omega
            · rw [List.length_map]; omega
            · simp -implicitDefEqProofs (maxSteps := 1000000) (disch := omega) only [↓xsP, ↓vc_seq, xsQ, xsT, xsR, xsD, ↓reduceIte, reduceCtorEq, eq_self, ne_eq, imp_self, forall_const, Nat.reduceEqDiff, Nat.reduceAdd, Nat.reduceSub, Nat.reduceMul, Nat.reduceLT, Nat.reduceLeDiff, Nat.reduceBEq, Nat.reduceDiv, Nat.reduceMod, Int.reduceToNat, Int.reduceNeg, Int.reduceAdd, Int.reduceSub, Int.reduceMul, Int.reduceEq, Int.reduceNe, Int.reduceLT, Int.reduceLE, Int.reduceGT, Int.reduceGE, f0, f2, f3, f9, f10, f100, f101, f102, h94]
              refine ⟨N4, .nils, .inl ⟨by simpa using he, rfl, rfl⟩, rfl⟩
            · have h95 := hend _ (.ms idq 0 nd.pairs.length) (.inr ⟨idq, rfl, hq, rfl⟩)
              simp -implicitDefEqProofs (maxSteps := 1000000) (disch := omega) only [↓xsP, ↓vc_seq, xsQ, xsT, xsR, xsD, ↓reduceIte, reduceCtorEq, eq_self, ne_eq, imp_self, forall_const, Nat.reduceEqDiff, Nat.reduceAdd, Nat.reduceSub, Nat.reduceMul, Nat.reduceLT, Nat.reduceLeDiff, Nat.reduceBEq, Nat.reduceDiv, Nat.reduceMod, Int.reduceToNat, Int.reduceNeg, Int.reduceAdd, Int.reduceSub, Int.reduceMul, Int.reduceEq, Int.reduceNe, Int.reduceLT, Int.reduceLE, Int.reduceGT, Int.reduceGE, f0, f2, f3, f9, f10, f100, f101, f102, h95]
              refine ⟨_, .ms idq 0 nd.pairs.length, .inr ⟨idq, rfl, hq, rfl⟩, rfl⟩
          · rintro fr N7 ⟨N5, v, hv, rfl, f0, f9, f10⟩
            obtain ⟨N6, g6, hP6, h96⟩ := hgh N5 v hv
            clear hend hgh
            simp -implicitDefEqProofs (maxSteps := 1000000) (disch := omega) only [↓xsP, ↓vc_seq, xsQ, xsT, xsR, xsD, ↓reduceIte, reduceCtorEq, eq_self, ne_eq, imp_self, forall_const, Nat.reduceEqDiff, Nat.reduceAdd, Nat.reduceSub, Nat.reduceMul, Nat.reduceLT, Nat.reduceLeDiff, Nat.reduceBEq, Nat.reduceDiv, Nat.reduceMod, Int.reduceToNat, Int.reduceNeg, Int.reduceAdd, Int.reduceSub, Int.reduceMul, Int.reduceEq, Int.reduceNe, Int.reduceLT, Int.reduceLE, Int.reduceGT, Int.reduceGE, f0, f9, f10]
            refine drawI_gs g6 ?_
            have hown6 := hP6.own
            rw [plB] at hown6
            obtain ⟨bd, hbd⟩ : ∃ bd, (!bof (LeafOk nd k)) = bd := ⟨_, rfl⟩
            rw [hbd] at hP6 hown6
            have hout : ∀ (N8 : Mem) (idq : Nat), B idq = none → N8 id = some (plB root ns ids (.ms idq 0 (rows.length + 1)) bd) → N8 ids = some (mtB m1) → N8 idq = some (.cells 46 (rows ++ [[.bool false, .int .i64 nd.key, .int .i64 nd.left, .int .i64 nd.right, .sl (nd.pairs.map Pr.row), .int .i64 nd.stat]]) 0) → B.le N8 → PlanK B root ns id ids (f + 1) m n i k rows (.l (.int .i64 rows.length)) N8 := fun N8 idq g1 g2 g3 g4 g5 => by
              have hP8 := hP6.push g1 g2 g3 g4 g5
              have hrow : ([.bool false, .int .i64 nd.key, .int .i64 nd.left, .int .i64 nd.right, .sl (nd.pairs.map Pr.row), .int .i64 nd.stat] : List Lf) = nd.row := by rw [row_nd, hro]
              rw [hrow] at hP8
              rw [PlanK, hmay]
              by_cases hL : LeafOk nd k
              · rw [bof_true hL]
                rw [bof_true hL] at hbd
                obtain ⟨ps, st, hnp, hw⟩ := (leafOk_iff hro).1 hL
                refine .inl ⟨rfl, .leaf ps st, [i], .ms idq 0 (rows.length + 1), .leaf hi (hnd.trans hnp), ?_, ?_, rfl, ?_⟩
                · rw [← hm1]; rfl
                · rw [show marks m [i] = m1 from hm1]; simp only [Tr.size]; omega
                · rw [preR, ← hnp, show marks m [i] = m1 from hm1]
                  rw [← hbd] at hP8
                  exact hP8
              · rw [bof_false hL]
                rw [bof_false hL] at hbd
                rw [← hbd] at hP8
                refine .inr ⟨rfl, rows.length, m1, _, _, rfl, hP8, by simp, by rw [List.length_append]; simp only [List.length_singleton]; omega, fun r hr => ?_⟩
                rcases List.mem_append.1 hr with hr | hr
                · exact h6 r hr
                · rw [List.mem_singleton.1 hr]; rfl
            have hseen6 := hP6.seen
            rcases hP6.nds with ⟨rfl, rfl⟩ | ⟨idn, rfl, hidn, hBn⟩
            · refine xwrite (fun n0 => [ (10, id)]) [10] [6, 7] [[], [], [], [], [], [], [], [], [], [], []] (by kernel_rfl) (by kernel_rfl) (by kernel_rfl) (by kernel_rfl) (fun n0 hn0 => ⟨rfl, ?_, ?_⟩)
              · exact TOk_cons (.inl (lt_of_bnd hn0 hP6.own)) (TOk_nil _ _)
              have yi := lt_of_bnd hn0 hP6.own
              have ys := lt_of_bnd hn0 hseen6
              have y9 := lt_of_bnd hn0 h96
              simp -implicitDefEqProofs (maxSteps := 1000000) (disch := omega) only [↓xsP, ↓vc_seq, xsQ, xsT, xsR, xsD, ↓reduceIte, reduceCtorEq, eq_self, ne_eq, imp_self, forall_const, Nat.reduceEqDiff, Nat.reduceAdd, Nat.reduceSub, Nat.reduceMul, Nat.reduceLT, Nat.reduceLeDiff, Nat.reduceBEq, Nat.reduceDiv, Nat.reduceMod, Int.reduceToNat, Int.reduceNeg, Int.reduceAdd, Int.reduceSub, Int.reduceMul, Int.reduceEq, Int.reduceNe, Int.reduceLT, Int.reduceLE, Int.reduceGT, Int.reduceGE, f0, f9, f10, hown6, h96]
              refine ⟨.inl (by decide), ?_⟩
              refine wapp_sb ti_22 rfl ti_46 (by kernel_rfl) (by decide) (by decide) SB.nil (bs := [[.bool false, .int .i64 nd.key, .int .i64 nd.left, .int .i64 nd.right, .sl (nd.pairs.map Pr.row), .int .i64 nd.stat]]) (by unfold srcRows; rw [if_pos rfl]; simp only [Mem.set_eq]; rfl) (by simp) (by simp) ?_
              simp only [dl, List.map_nil, List.map_cons, List.nil_append, List.cons_append]
              simp -implicitDefEqProofs (maxSteps := 1000000) (disch := omega) only [↓xsP, ↓vc_seq, xsQ, xsT, xsR, xsD, ↓reduceIte, reduceCtorEq, eq_self, ne_eq, imp_self, forall_const, Nat.reduceEqDiff, Nat.reduceAdd, Nat.reduceSub, Nat.reduceMul, Nat.reduceLT, Nat.reduceLeDiff, Nat.reduceBEq, Nat.reduceDiv, Nat.reduceMod, Int.reduceToNat, Int.reduceNeg, Int.reduceAdd, Int.reduceSub, Int.reduceMul, Int.reduceEq, Int.reduceNe, Int.reduceLT, Int.reduceLE, Int.reduceGT, Int.reduceGE, f0, f9, f10, hown6, h96]
              have hB6 := fun j (hj : N6 j = none) => show B j = none from by
                cases hb' : B j with
                | none => rfl
                | some bk =>
                  have := hP6.le _ _ hb'
                  rw [hj] at this
                  cases this
              refine ⟨.inl (by decide), fin_ok (Mem.le_refl _) ?_⟩
              refine hout _ (n0 + 7) (hB6 _ (hn0 _ (by omega))) (Mem.set_eq _ _ _) ?_ ?_ (fun k bk hk => ?_)
              · simp (disch := omega) only [Mem.set_ne, Mem.del_ne]; exact hseen6
              · simp (disch := omega) only [Mem.set_ne, Mem.set_eq]; rfl
              · have z := hP6.le _ _ hk
                have zk := lt_of_bnd hn0 z
                have z1 : k ≠ id := fun e => by rw [e, hP6.bid] at hk; cases hk
                simp (disch := omega) only [Mem.set_ne, Mem.del_ne]; exact z
            · refine xwrite (fun n0 => [ (7, idn), (10, id)]) [7, 10] [6, 7] [[7], [], [], [], [], [], [], [], [], [], []] (by kernel_rfl) (by kernel_rfl) (by kernel_rfl) (by kernel_rfl) (fun n0 hn0 => ⟨rfl, ?_, ?_⟩)
              · exact TOk_cons (.inl (lt_of_bnd hn0 hidn)) (TOk_cons (.inl (lt_of_bnd hn0 hP6.own)) (TOk_nil _ _))
              have yi := lt_of_bnd hn0 hP6.own
              have ys := lt_of_bnd hn0 hseen6
              have y9 := lt_of_bnd hn0 h96
              have yn := lt_of_bnd hn0 hidn
              have kni := ne_ty hidn hP6.own (by decide)
              have kns := ne_ty hidn hseen6 (by decide)
              have hB6 := fun j (hj : N6 j = none) => show B j = none from by
                cases hb' : B j with
                | none => rfl
                | some bk =>
                  have := hP6.le _ _ hb'
                  rw [hj] at this
                  cases this
              simp -implicitDefEqProofs (maxSteps := 1000000) (disch := omega) only [↓xsP, ↓vc_seq, xsQ, xsT, xsR, xsD, ↓reduceIte, reduceCtorEq, eq_self, ne_eq, imp_self, forall_const, Nat.reduceEqDiff, Nat.reduceAdd, Nat.reduceSub, Nat.reduceMul, Nat.reduceLT, Nat.reduceLeDiff, Nat.reduceBEq, Nat.reduceDiv, Nat.reduceMod, Int.reduceToNat, Int.reduceNeg, Int.reduceAdd, Int.reduceSub, Int.reduceMul, Int.reduceEq, Int.reduceNe, Int.reduceLT, Int.reduceLE, Int.reduceGT, Int.reduceGE, f0, f9, f10, hown6, h96, hidn]
              refine ⟨.inl (by decide), ?_⟩
              refine wapp_sb ti_22 rfl ti_46 (by kernel_rfl) (by decide) (by decide) (SB.ms (rows := rows) (T := 46) ((Mem.set_ne _ _ _ _ (by omega)).trans hidn)) (bs := [[.bool false, .int .i64 nd.key, .int .i64 nd.left, .int .i64 nd.right, .sl (nd.pairs.map Pr.row), .int .i64 nd.stat]]) (by unfold srcRows; rw [if_pos rfl]; simp only [Mem.set_eq]; rfl) (by simp) (by simp only [List.length_singleton]; omega) ?_
              simp only [dl, List.map_nil, List.map_cons, List.nil_append, List.cons_append]
              simp -implicitDefEqProofs (maxSteps := 1000000) (disch := omega) only [↓xsP, ↓vc_seq, xsQ, xsT, xsR, xsD, ↓reduceIte, reduceCtorEq, eq_self, ne_eq, imp_self, forall_const, Nat.reduceEqDiff, Nat.reduceAdd, Nat.reduceSub, Nat.reduceMul, Nat.reduceLT, Nat.reduceLeDiff, Nat.reduceBEq, Nat.reduceDiv, Nat.reduceMod, Int.reduceToNat, Int.reduceNeg, Int.reduceAdd, Int.reduceSub, Int.reduceMul, Int.reduceEq, Int.reduceNe, Int.reduceLT, Int.reduceLE, Int.reduceGT, Int.reduceGE, f0, f9, f10, hown6, h96, hidn]
              refine ⟨.inl (by decide), fin_ok (Mem.le_refl _) ?_⟩
              refine hout _ (n0 + 7) (hB6 _ (hn0 _ (by omega))) (Mem.set_eq _ _ _) ?_ ?_ (fun k bk hk => ?_)
              · simp (disch := omega) only [Mem.set_ne, Mem.del_ne]; exact hseen6
              · simp (disch := omega) only [Mem.set_ne, Mem.set_eq]
              · have z := hP6.le _ _ hk
                have zk := lt_of_bnd hn0 z
                have z1 : k ≠ id := fun e => by rw [e, hP6.bid] at hk; cases hk
                have z2 : k ≠ idn := fun e => by rw [e, hBn] at hk; cases hk
                simp (disch := omega) only [Mem.set_ne, Mem.del_ne]; exact z
    | true =>
      rw [hro, if_neg (by decide)] at hmay
      rw [hro] at h99
      simp -implicitDefEqProofs (maxSteps := 1000000) (disch := omega) only [↓xsP, xsQ, xsT, xsR, xsD, ↓reduceIte, reduceCtorEq, eq_self, ne_eq, imp_self, forall_const, Nat.reduceEqDiff, Nat.reduceAdd, Nat.reduceSub, Nat.reduceMul, Nat.reduceLT, Nat.reduceLeDiff, Nat.reduceBEq, Nat.reduceDiv, Nat.reduceMod, Int.reduceToNat, Int.reduceNeg, Int.reduceAdd, Int.reduceSub, Int.reduceMul, Int.reduceEq, Int.reduceNe, Int.reduceLT, Int.reduceLE, Int.reduceGT, Int.reduceGE, hown2, h99, hln]
      have hbad : ¬ ForkOk nd k → PlanK B root ns id ids (f + 1) m n i k rows (.l (.int .i64 0)) (N2.set id (.cells 82 [[.int .i64 root, .sl (ns.map Nd.row), x, .ms ids 0 ns.length, .bool true]] 0)) := fun hno => by
        have hb := hP2.setbad true
        rw [plB] at hb
        refine .inr ⟨by rw [hmay, bof_false hno]; rfl, 0, m1, rows, x, rfl, hb, Nat.le_refl _, by omega, h6⟩
      refine vc_cut (fun fr' N' => N' = N2 ∧ ForkOk nd k ∧ fr' 0 = .l (.ptr id 0 0) ∧ fr' 2 = .l (.sl ((loL k).map irow)) ∧ fr' 3 = .l (.sl ((hiL k).map irow)) ∧ fr' 9 = .l (.ptr id9 0 0) ∧ fr' 10 = .l (.int .i64 rows.length)) ?_ ?_
      · simp -implicitDefEqProofs (maxSteps := 1000000) (disch := omega) only [↓xsP, ↓vc_seq, xsQ, xsT, xsR, xsD, ↓reduceIte, reduceCtorEq, eq_self, ne_eq, imp_self, forall_const, Nat.reduceEqDiff, Nat.reduceAdd, Nat.reduceSub, Nat.reduceMul, Nat.reduceLT, Nat.reduceLeDiff, Nat.reduceBEq, Nat.reduceDiv, Nat.reduceMod, Int.reduceToNat, Int.reduceNeg, Int.reduceAdd, Int.reduceSub, Int.reduceMul, Int.reduceEq, Int.reduceNe, Int.reduceLT, Int.reduceLE, Int.reduceGT, Int.reduceGE, hown2, h99]
        refine xquiet (by kernel_rfl) (by kernel_rfl) (by kernel_rfl) ?_
        by_cases l1 : nd.pairs = []
        rotate_left
        · have w1 : decide (¬ ((nd.pairs.length : Int) = 0)) = true := decide_eq_true (by simpa using l1)
          simp -implicitDefEqProofs (maxSteps := 1000000) (disch := omega) only [↓xsP, ↓vc_seq, xsQ, xsT, xsR, xsD, ↓reduceIte, reduceCtorEq, eq_self, ne_eq, imp_self, forall_const, Nat.reduceEqDiff, Nat.reduceAdd, Nat.reduceSub, Nat.reduceMul, Nat.reduceLT, Nat.reduceLeDiff, Nat.reduceBEq, Nat.reduceDiv, Nat.reduceMod, Int.reduceToNat, Int.reduceNeg, Int.reduceAdd, Int.reduceSub, Int.reduceMul, Int.reduceEq, Int.reduceNe, Int.reduceLT, Int.reduceLE, Int.reduceGT, Int.reduceGE, hown2, h99, w1]
          exact fin_ok (Mem.le_refl _) (hbad fun h => l1 h.1)
        have w1 : decide (¬ ((nd.pairs.length : Int) = 0)) = false := decide_eq_false (by rw [l1]; simp)
        by_cases l2 : nd.stat = 0
        rotate_left
        · have w2 : decide (¬ (nd.stat = 0)) = true := decide_eq_true l2
          simp -implicitDefEqProofs (maxSteps := 1000000) (disch := omega) only [↓xsP, ↓vc_seq, xsQ, xsT, xsR, xsD, ↓reduceIte, reduceCtorEq, eq_self, ne_eq, imp_self, forall_const, Nat.reduceEqDiff, Nat.reduceAdd, Nat.reduceSub, Nat.reduceMul, Nat.reduceLT, Nat.reduceLeDiff, Nat.reduceBEq, Nat.reduceDiv, Nat.reduceMod, Int.reduceToNat, Int.reduceNeg, Int.reduceAdd, Int.reduceSub, Int.reduceMul, Int.reduceEq, Int.reduceNe, Int.reduceLT, Int.reduceLE, Int.reduceGT, Int.reduceGE, hown2, h99, w1, w2]
          exact fin_ok (Mem.le_refl _) (hbad fun h => l2 h.2.1)
        have w2 : decide (¬ (nd.stat = 0)) = false := decide_eq_false (fun h => h l2)
        cases hL : k.isLeast with
        | false =>
          have w3 : decide (((loL k).length : Int) > 0) = false := decide_eq_false (by rw [loL, hL]; simp)
          cases hM : k.isMost with
          | false =>
            have v0 : decide (((hiL k).length : Int) > 0) = false := decide_eq_false (by rw [hiL, hM]; simp)
            simp -implicitDefEqProofs (maxSteps := 1000000) (disch := omega) only [↓xsP, ↓vc_seq, xsQ, xsT, xsR, xsD, ↓reduceIte, reduceCtorEq, eq_self, ne_eq, imp_self, forall_const, Nat.reduceEqDiff, Nat.reduceAdd, Nat.reduceSub, Nat.reduceMul, Nat.reduceLT, Nat.reduceLeDiff, Nat.reduceBEq, Nat.reduceDiv, Nat.reduceMod, Int.reduceToNat, Int.reduceNeg, Int.reduceAdd, Int.reduceSub, Int.reduceMul, Int.reduceEq, Int.reduceNe, Int.reduceLT, Int.reduceLE, Int.reduceGT, Int.reduceGE, hown2, h99, w1, w2, w3, v0]
            exact ⟨l1, l2, by rw [Ks.has, hM, hL]; simp, by rw [hL]; simp⟩
          | true =>
            have v0 : decide (((hiL k).length : Int) > 0) = true := decide_eq_true (by rw [hiL, hM]; simp)
            have v1 : 0 < (hiL k).length := by rw [hiL, hM]; simp
            have v2 : (hiL k).getD 0 default = k.most := by rw [hiL, hM]; rfl
            have v2' : ((hiL k).getD (Int.toNat 0) default) = k.most := v2
            by_cases hk2 : nd.key ≥ k.most
            · have v3 : decide (nd.key ≥ k.most) = true := decide_eq_true hk2
              simp -implicitDefEqProofs (maxSteps := 1000000) (disch := omega) only [↓xsP, ↓vc_seq, xsQ, xsT, xsR, xsD, ↓reduceIte, reduceCtorEq, eq_self, ne_eq, imp_self, forall_const, Nat.reduceEqDiff, Nat.reduceAdd, Nat.reduceSub, Nat.reduceMul, Nat.reduceLT, Nat.reduceLeDiff, Nat.reduceBEq, Nat.reduceDiv, Nat.reduceMod, Int.reduceToNat, Int.reduceNeg, Int.reduceAdd, Int.reduceSub, Int.reduceMul, Int.reduceEq, Int.reduceNe, Int.reduceLT, Int.reduceLE, Int.reduceGT, Int.reduceGE, hown2, h99, w1, w2, w3, v0, v2, v2', v3]
              exact fin_ok (Mem.le_refl _) (hbad fun h => by have := h.2.2.1; rw [Ks.has, hM, decide_eq_false (show ¬ nd.key < k.most by omega)] at this; simp at this)
            · have v3 : decide (nd.key ≥ k.most) = false := decide_eq_false hk2
              simp -implicitDefEqProofs (maxSteps := 1000000) (disch := omega) only [↓xsP, ↓vc_seq, xsQ, xsT, xsR, xsD, ↓reduceIte, reduceCtorEq, eq_self, ne_eq, imp_self, forall_const, Nat.reduceEqDiff, Nat.reduceAdd, Nat.reduceSub, Nat.reduceMul, Nat.reduceLT, Nat.reduceLeDiff, Nat.reduceBEq, Nat.reduceDiv, Nat.reduceMod, Int.reduceToNat, Int.reduceNeg, Int.reduceAdd, Int.reduceSub, Int.reduceMul, Int.reduceEq, Int.reduceNe, Int.reduceLT, Int.reduceLE, Int.reduceGT, Int.reduceGE, hown2, h99, w1, w2, w3, v0, v2, v2', v3]
              exact ⟨l1, l2, by rw [Ks.has, hM, hL]; simp [show nd.key < k.most by omega], by rw [hL]; simp⟩
        | true =>
          have w3 : decide (((loL k).length : Int) > 0) = true := decide_eq_true (by rw [loL, hL]; simp)
          have w4 : 0 < (loL k).length := by rw [loL, hL]; simp
          have w5 : (loL k).getD 0 default = k.least := by rw [loL, hL]; rfl
          have w5' : ((loL k).getD (Int.toNat 0) default) = k.least := w5
          by_cases hk1 : nd.key ≤ k.least
          · have w6 : decide (nd.key ≤ k.least) = true := decide_eq_true hk1
            simp -implicitDefEqProofs (maxSteps := 1000000) (disch := omega) only [↓xsP, ↓vc_seq, xsQ, xsT, xsR, xsD, ↓reduceIte, reduceCtorEq, eq_self, ne_eq, imp_self, forall_const, Nat.reduceEqDiff, Nat.reduceAdd, Nat.reduceSub, Nat.reduceMul, Nat.reduceLT, Nat.reduceLeDiff, Nat.reduceBEq, Nat.reduceDiv, Nat.reduceMod, Int.reduceToNat, Int.reduceNeg, Int.reduceAdd, Int.reduceSub, Int.reduceMul, Int.reduceEq, Int.reduceNe, Int.reduceLT, Int.reduceLE, Int.reduceGT, Int.reduceGE, hown2, h99, w1, w2, w3, w5, w5', w6]
            exact fin_ok (Mem.le_refl _) (hbad fun h => by have h1 := h.2.2.1; have h2 := h.2.2.2; rw [hL] at h2; simp only [true_and] at h2; rw [Ks.has, hL, decide_eq_false (show ¬ nd.key ≥ k.least by omega)] at h1; simp at h1)
          have w6 : decide (nd.key ≤ k.least) = false := decide_eq_false hk1
          cases hM : k.isMost with
          | false =>
            have v0 : decide (((hiL k).length : Int) > 0) = false := decide_eq_false (by rw [hiL, hM]; simp)
            simp -implicitDefEqProofs (maxSteps := 1000000) (disch := omega) only [↓xsP, ↓vc_seq, xsQ, xsT, xsR, xsD, ↓reduceIte, reduceCtorEq, eq_self, ne_eq, imp_self, forall_const, Nat.reduceEqDiff, Nat.reduceAdd, Nat.reduceSub, Nat.reduceMul, Nat.reduceLT, Nat.reduceLeDiff, Nat.reduceBEq, Nat.reduceDiv, Nat.reduceMod, Int.reduceToNat, Int.reduceNeg, Int.reduceAdd, Int.reduceSub, Int.reduceMul, Int.reduceEq, Int.reduceNe, Int.reduceLT, Int.reduceLE, Int.reduceGT, Int.reduceGE, hown2, h99, w1, w2, w3, w5, w5', w6, v0]
            exact ⟨l1, l2, by rw [Ks.has, hM, hL]; simp [show nd.key ≥ k.least by omega], by rw [hL]; omega⟩
          | true =>
            have v0 : decide (((hiL k).length : Int) > 0) = true := decide_eq_true (by rw [hiL, hM]; simp)
            have v1 : 0 < (hiL k).length := by rw [hiL, hM]; simp
            have v2 : (hiL k).getD 0 default = k.most := by rw [hiL, hM]; rfl
            have v2' : ((hiL k).getD (Int.toNat 0) default) = k.most := v2
            by_cases hk2 : nd.key ≥ k.most
            · have v3 : decide (nd.key ≥ k.most) = true := decide_eq_true hk2
              simp -implicitDefEqProofs (maxSteps := 1000000) (disch := omega) only [↓xsP, ↓vc_seq, xsQ, xsT, xsR, xsD, ↓reduceIte, reduceCtorEq, eq_self, ne_eq, imp_self, forall_const, Nat.reduceEqDiff, Nat.reduceAdd, Nat.reduceSub, Nat.reduceMul, Nat.reduceLT, Nat.reduceLeDiff, Nat.reduceBEq, Nat.reduceDiv, Nat.reduceMod, Int.reduceToNat, Int.reduceNeg, Int.reduceAdd, Int.reduceSub, Int.reduceMul, Int.reduceEq, Int.reduceNe, Int.reduceLT, Int.reduceLE, Int.reduceGT, Int.reduceGE, hown2, h99, w1, w2, w3, w5, w5', w6, v0, v2, v2', v3]
              exact fin_ok (Mem.le_refl _) (hbad fun h => by have := h.2.2.1; rw [Ks.has, hM, decide_eq_false (show ¬ nd.key < k.most by omega)] at this; simp at this)
            · have v3 : decide (nd.key ≥ k.most) = false := decide_eq_false hk2
              simp -implicitDefEqProofs (maxSteps := 1000000) (disch := omega) only [↓xsP, ↓vc_seq, xsQ, xsT, xsR, xsD, ↓reduceIte, reduceCtorEq, eq_self, ne_eq, imp_self, forall_const, Nat.reduceEqDiff, Nat.reduceAdd, Nat.reduceSub, Nat.reduceMul, Nat.reduceLT, Nat.reduceLeDiff, Nat.reduceBEq, Nat.reduceDiv, Nat.reduceMod, Int.reduceToNat, Int.reduceNeg, Int.reduceAdd, Int.reduceSub, Int.reduceMul, Int.reduceEq, Int.reduceNe, Int.reduceLT, Int.reduceLE, Int.reduceGT, Int.reduceGE, hown2, h99, w1, w2, w3, w5, w5', w6, v0, v2, v2', v3]
              exact ⟨l1, l2, by rw [Ks.has, hM, hL]; simp [show nd.key < k.most by omega, show nd.key ≥ k.least by omega], by rw [hL]; omega⟩
      · rintro fr N3 ⟨rfl, hok, f0, f2, f3, f9, f10⟩
        clear hbad
        rw [bof_true hok, if_neg (by decide)] at hmay
        obtain ⟨hfn, hhas, hnl⟩ := (forkOk_iff hro).1 hok
        obtain ⟨ph, hph⟩ : ∃ ph : List Lf, ph = [.bool true, .int .i64 nd.key, .int .i64 0, .int .i64 0, .nils, .int .i64 0] := ⟨_, rfl⟩
        have hph6 : ph.length = 6 := by rw [hph]; rfl
        have hx9 : ∀ idn, x = .ms idn 0 rows.length → idn ≠ id9 := fun idn h1 e => by
          rcases hP1.nds with ⟨_, hx⟩ | ⟨idn', hx, hm, _⟩
          · rw [hx] at h1; cases h1
          · rw [hx] at h1
            injection h1 with h1 _ _
            have := lt_of_bnd hid9 hm
            omega
        obtain ⟨X9, hX9⟩ : ∃ X9 : Blk, X9 = .cells 46 [[.bool true, .int .i64 nd.key, .int .i64 nd.left, .int .i64 nd.right, .sl (nd.pairs.map Pr.row), .int .i64 nd.stat]] 0 := ⟨_, rfl⟩
        have h9i : id9 ≠ id := by omega
        have h9s : id9 ≠ ids := by omega
        obtain ⟨B9, hB9e⟩ : ∃ B9, B9 = B.set id9 X9 := ⟨_, rfl⟩
        have hP9 : PSt B9 N3 root ns id ids m1 rows x false := by
          rw [hB9e]
          exact hP2.upB (by rw [hX9]; exact h99) h9i h9s hx9
        have hBB : B.le B9 := fun j bk hj => by
          rw [hB9e, Mem.set_ne _ _ _ _ (fun e => by rw [← e, hB9] at hj; cases hj)]
          exact hj
        have hB99 : B9 id9 = some (.cells 46 [[.bool true, .int .i64 nd.key, .int .i64 nd.left, .int .i64 nd.right, .sl (nd.pairs.map Pr.row), .int .i64 nd.stat]] 0) := by rw [hB9e, Mem.set_eq, hX9]
        clear hP hP1 hP2 hB9e hX9
        have hB6 := fun j (hj : N3 j = none) => show B9 j = none from by
          cases hb' : B9 j with
          | none => rfl
          | some bk =>
            have := hP9.le _ _ hb'
            rw [hj] at this
            cases this
        have hseen2 := hP9.seen
        refine vc_cut (fun fr' N' => (∃ x', PSt B9 N' root ns id ids m1 (rows ++ [ph]) x' false) ∧ fr' 0 = .l (.ptr id 0 0) ∧ fr' 2 = .l (.sl ((loL k).map irow)) ∧ fr' 3 = .l (.sl ((hiL k).map irow)) ∧ fr' 9 = .l (.ptr id9 0 0) ∧ fr' 10 = .l (.int .i64 rows.length)) ?_ ?_
        · rcases hP9.nds with ⟨rfl, rfl⟩ | ⟨idn, rfl, hidn, hBn⟩
          · simp -implicitDefEqProofs (maxSteps := 1000000) (disch := omega) only [↓xsP, ↓vc_seq, xsQ, xsT, xsR, xsD, ↓reduceIte, reduceCtorEq, eq_self, ne_eq, imp_self, forall_const, Nat.reduceEqDiff, Nat.reduceAdd, Nat.reduceSub, Nat.reduceMul, Nat.reduceLT, Nat.reduceLeDiff, Nat.reduceBEq, Nat.reduceDiv, Nat.reduceMod, Int.reduceToNat, Int.reduceNeg, Int.reduceAdd, Int.reduceSub, Int.reduceMul, Int.reduceEq, Int.reduceNe, Int.reduceLT, Int.reduceLE, Int.reduceGT, Int.reduceGE, f0, f9, f10, hown2, h99]
            refine xwrite (fun n0 => [ (12, id)]) [12] [8, 9] [[], [], [], [], [], [], [], [], [], [], [], [], []] (by kernel_rfl) (by kernel_rfl) (by kernel_rfl) (by kernel_rfl) (fun n0 hn0 => ⟨rfl, ?_, ?_⟩)
            · exact TOk_cons (.inl (lt_of_bnd hn0 hP9.own)) (TOk_nil _ _)
            have yi := lt_of_bnd hn0 hP9.own
            have ys := lt_of_bnd hn0 hseen2
            have y9 := lt_of_bnd hn0 h99
            simp -implicitDefEqProofs (maxSteps := 1000000) (disch := omega) only [↓xsP, ↓vc_seq, xsQ, xsT, xsR, xsD, ↓reduceIte, reduceCtorEq, eq_self, ne_eq, imp_self, forall_const, Nat.reduceEqDiff, Nat.reduceAdd, Nat.reduceSub, Nat.reduceMul, Nat.reduceLT, Nat.reduceLeDiff, Nat.reduceBEq, Nat.reduceDiv, Nat.reduceMod, Int.reduceToNat, Int.reduceNeg, Int.reduceAdd, Int.reduceSub, Int.reduceMul, Int.reduceEq, Int.reduceNe, Int.reduceLT, Int.reduceLE, Int.reduceGT, Int.reduceGE, f0, f2, f3, f9, f10, hown2, h99]
            refine ⟨.inl (by decide), ?_⟩
            refine wapp_sb ti_22 rfl ti_46 (by kernel_rfl) (by decide) (by decide) SB.nil (bs := [ph]) (by unfold srcRows; rw [if_pos rfl, hph]; simp only [Mem.set_eq]; rfl) (by simp) (by simp) ?_
            simp only [dl, List.map_nil, List.map_cons, List.nil_append, List.cons_append]
            simp -implicitDefEqProofs (maxSteps := 1000000) (disch := omega) only [↓xsP, ↓vc_seq, xsQ, xsT, xsR, xsD, ↓reduceIte, reduceCtorEq, eq_self, ne_eq, imp_self, forall_const, Nat.reduceEqDiff, Nat.reduceAdd, Nat.reduceSub, Nat.reduceMul, Nat.reduceLT, Nat.reduceLeDiff, Nat.reduceBEq, Nat.reduceDiv, Nat.reduceMod, Int.reduceToNat, Int.reduceNeg, Int.reduceAdd, Int.reduceSub, Int.reduceMul, Int.reduceEq, Int.reduceNe, Int.reduceLT, Int.reduceLE, Int.reduceGT, Int.reduceGE, f0, f2, f3, f9, f10, hown2, h99]
            refine ⟨.inl (by decide), ⟨.ms (n0 + 9) 0 1, hP9.push (hB6 _ (hn0 _ (by omega))) (Mem.set_eq _ _ _) ?_ ?_ (fun k bk hk => ?_)⟩⟩
            · simp (disch := omega) only [Mem.set_ne, Mem.del_ne]; exact hseen2
            · simp (disch := omega) only [Mem.set_ne, Mem.set_eq]; rfl
            · have z := hP9.le _ _ hk
              have zk := lt_of_bnd hn0 z
              have z1 : k ≠ id := fun e => by rw [e, hP9.bid] at hk; cases hk
              simp (disch := omega) only [Mem.set_ne, Mem.del_ne]; exact z
          · have kn9 := hx9 idn rfl
            simp -implicitDefEqProofs (maxSteps := 1000000) (disch := omega) only [↓xsP, ↓vc_seq, xsQ, xsT, xsR, xsD, ↓reduceIte, reduceCtorEq, eq_self, ne_eq, imp_self, forall_const, Nat.reduceEqDiff, Nat.reduceAdd, Nat.reduceSub, Nat.reduceMul, Nat.reduceLT, Nat.reduceLeDiff, Nat.reduceBEq, Nat.reduceDiv, Nat.reduceMod, Int.reduceToNat, Int.reduceNeg, Int.reduceAdd, Int.reduceSub, Int.reduceMul, Int.reduceEq, Int.reduceNe, Int.reduceLT, Int.reduceLE, Int.reduceGT, Int.reduceGE, f0, f9, f10, hown2, h99]
            refine xwrite (fun n0 => [ (9, idn), (12, id)]) [9, 12] [8, 9] [[9], [], [], [], [], [], [], [], [], [], [], [], []] (by kernel_rfl) (by kernel_rfl) (by kernel_rfl) (by kernel_rfl) (fun n0 hn0 => ⟨rfl, ?_, ?_⟩)
            · exact TOk_cons (.inl (lt_of_bnd hn0 hidn)) (TOk_cons (.inl (lt_of_bnd hn0 hP9.own)) (TOk_nil _ _))
            have yi := lt_of_bnd hn0 hP9.own
            have ys := lt_of_bnd hn0 hseen2
            have y9 := lt_of_bnd hn0 h99
            have yn := lt_of_bnd hn0 hidn
            have kni := ne_ty hidn hP9.own (by decide)
            have kns := ne_ty hidn hseen2 (by decide)
            simp -implicitDefEqProofs (maxSteps := 1000000) (disch := omega) only [↓xsP, ↓vc_seq, xsQ, xsT, xsR, xsD, ↓reduceIte, reduceCtorEq, eq_self, ne_eq, imp_self, forall_const, Nat.reduceEqDiff, Nat.reduceAdd, Nat.reduceSub, Nat.reduceMul, Nat.reduceLT, Nat.reduceLeDiff, Nat.reduceBEq, Nat.reduceDiv, Nat.reduceMod, Int.reduceToNat, Int.reduceNeg, Int.reduceAdd, Int.reduceSub, Int.reduceMul, Int.reduceEq, Int.reduceNe, Int.reduceLT, Int.reduceLE, Int.reduceGT, Int.reduceGE, f0, f2, f3, f9, f10, hown2, h99, hidn]
            refine ⟨.inl (by decide), ?_⟩
            refine wapp_sb ti_22 rfl ti_46 (by kernel_rfl) (by decide) (by decide) (SB.ms (rows := rows) (T := 46) ((Mem.set_ne _ _ _ _ (by omega)).trans hidn)) (bs := [ph]) (by unfold srcRows; rw [if_pos rfl, hph]; simp only [Mem.set_eq]; rfl) (by simp) (by simp only [List.length_singleton]; omega) ?_
            simp only [dl, List.map_nil, List.map_cons, List.nil_append, List.cons_append]
            simp -implicitDefEqProofs (maxSteps := 1000000) (disch := omega) only [↓xsP, ↓vc_seq, xsQ, xsT, xsR, xsD, ↓reduceIte, reduceCtorEq, eq_self, ne_eq, imp_self, forall_const, Nat.reduceEqDiff, Nat.reduceAdd, Nat.reduceSub, Nat.reduceMul, Nat.reduceLT, Nat.reduceLeDiff, Nat.reduceBEq, Nat.reduceDiv, Nat.reduceMod, Int.reduceToNat, Int.reduceNeg, Int.reduceAdd, Int.reduceSub, Int.reduceMul, Int.reduceEq, Int.reduceNe, Int.reduceLT, Int.reduceLE, Int.reduceGT, Int.reduceGE, f0, f2, f3, f9, f10, hown2, h99, hidn]
            refine ⟨.inl (by decide), ⟨.ms (n0 + 9) 0 (rows.length + 1), hP9.push (hB6 _ (hn0 _ (by omega))) (Mem.set_eq _ _ _) ?_ ?_ (fun k bk hk => ?_)⟩⟩
            · simp (disch := omega) only [Mem.set_ne, Mem.del_ne]; exact hseen2
            · simp (disch := omega) only [Mem.set_ne, Mem.set_eq]
            · have z := hP9.le _ _ hk
              have zk := lt_of_bnd hn0 z
              have z1 : k ≠ id := fun e => by rw [e, hP9.bid] at hk; cases hk
              have z2 : k ≠ idn := fun e => by rw [e, hBn] at hk; cases hk
              simp (disch := omega) only [Mem.set_ne, Mem.del_ne]; exact z
        · rintro fr N4 ⟨⟨x', hP4⟩, f0, f2, f3, f9, f10⟩
          have h94 := hP4.le _ _ hB99
          have h6' : R6 (rows ++ [ph]) := fun r hr => by
            rcases List.mem_append.1 hr with hr | hr
            · exact h6 r hr
            · rw [List.mem_singleton.1 hr]; exact hph6
          refine vc_cut (fun fr' N' => ∃ v, fr' 13 = .l (.int .i64 v) ∧ PlanK B9 root ns id ids f m1 (n + 1) nd.left (k.lo nd.key) (rows ++ [ph]) (.l (.int .i64 v)) N' ∧ fr' 0 = .l (.ptr id 0 0) ∧ fr' 3 = .l (.sl ((hiL k).map irow)) ∧ fr' 9 = .l (.ptr id9 0 0) ∧ fr' 10 = .l (.int .i64 rows.length)) ?_ ?_
          · simp -implicitDefEqProofs (maxSteps := 1000000) (disch := omega) only [↓xsP, ↓vc_seq, xsQ, xsT, xsR, xsD, ↓reduceIte, reduceCtorEq, eq_self, ne_eq, imp_self, forall_const, Nat.reduceEqDiff, Nat.reduceAdd, Nat.reduceSub, Nat.reduceMul, Nat.reduceLT, Nat.reduceLeDiff, Nat.reduceBEq, Nat.reduceDiv, Nat.reduceMod, Int.reduceToNat, Int.reduceNeg, Int.reduceAdd, Int.reduceSub, Int.reduceMul, Int.reduceEq, Int.reduceNe, Int.reduceLT, Int.reduceLE, Int.reduceGT, Int.reduceGE, f0, f2, f3, f9, f10, h94]
            refine newI_intro fun id11 hid11 => ?_
            have hP5 := hP4.new hid11 (.cells 3 [[.int .i64 nd.key]] 1)
            simp -implicitDefEqProofs (maxSteps := 1000000) (disch := omega) only [↓xsP, ↓vc_seq, xsQ, xsT, xsR, xsD, ↓reduceIte, reduceCtorEq, eq_self, ne_eq, imp_self, forall_const, Nat.reduceEqDiff, Nat.reduceAdd, Nat.reduceSub, Nat.reduceMul, Nat.reduceLT, Nat.reduceLeDiff, Nat.reduceBEq, Nat.reduceDiv, Nat.reduceMod, Int.reduceToNat, Int.reduceNeg, Int.reduceAdd, Int.reduceSub, Int.reduceMul, Int.reduceEq, Int.reduceNe, Int.reduceLT, Int.reduceLE, Int.reduceGT, Int.reduceGE, f0, f2, f3, f9, f10, h94]
            have sp := plan_spec root ns hns hp id ids f B9 m1 (n + 1) nd.left (k.lo nd.key) (rows ++ [ph]) x' _ hm1l (by omega) (by rw [List.length_append]; simp only [List.length_singleton]; omega) h6' hP5
            rw [show (loL (k.lo nd.key)).map irow = (loL k).map irow from rfl, show (hiL (k.lo nd.key)).map irow = [[.int .i64 nd.key]] from rfl] at sp
            have g := GStep.frz (Mem.set_eq N4 id11 (.cells 3 [[.int .i64 nd.key]] 0))
            rw [Mem.set_set] at g
            refine callI_gs g (callI_of (XCalls.mono (XCalls.rd (.cons (.inl ⟨rfl, Fast.ptr _ _ _⟩) (.cons (.inl ⟨rfl, Fast.int _ _⟩) (.cons (.inl ⟨rfl, Fast.sl _⟩) (.cons (.inr ⟨_, _, rfl, rfl, Rd.ms (Mem.set_eq _ _ _) (Nat.le_max_right _ _) rfl⟩) .nil)))) sp) ?_))
            intro r N5 hK
            obtain ⟨v, rfl⟩ := hK.le.2
            simp -implicitDefEqProofs (maxSteps := 1000000) (disch := omega) only [↓xsP, ↓vc_seq, xsQ, xsT, xsR, xsD, ↓reduceIte, reduceCtorEq, eq_self, ne_eq, imp_self, forall_const, Nat.reduceEqDiff, Nat.reduceAdd, Nat.reduceSub, Nat.reduceMul, Nat.reduceLT, Nat.reduceLeDiff, Nat.reduceBEq, Nat.reduceDiv, Nat.reduceMod, Int.reduceToNat, Int.reduceNeg, Int.reduceAdd, Int.reduceSub, Int.reduceMul, Int.reduceEq, Int.reduceNe, Int.reduceLT, Int.reduceLE, Int.reduceGT, Int.reduceGE, f0, f2, f3, f9, f10]
            exact ⟨v, rfl, hK⟩
          · rintro fr N5 ⟨v1, f13, hK1, f0, f3, f9, f10⟩
            have h95 := hK1.le.1 _ _ hB99
            refine vc_cut (fun fr' N' => ∃ (v2 : Int) (m' : List Bool) (R : List (List Lf)) (x2 : Lf) (bd : Bool) (a1 a2 a3 a4 a5 a6 : Lf), fr' 14 = .l (.int .i64 v2) ∧ PSt B9 N' root ns id ids m' R x2 bd ∧ R[rows.length]? = some [a1, a2, a3, a4, a5, a6] ∧ (∀ N'' x3, PSt B N'' root ns id ids m' (R.set rows.length [a1, a2, .int .i64 v1, .int .i64 v2, a5, a6]) x3 bd → PlanK B root ns id ids (f + 1) m n i k rows (.l (.int .i64 rows.length)) N'') ∧ fr' 0 = .l (.ptr id 0 0) ∧ fr' 10 = .l (.int .i64 rows.length) ∧ fr' 13 = .l (.int .i64 v1)) ?_ ?_
            · simp -implicitDefEqProofs (maxSteps := 1000000) (disch := omega) only [↓xsP, ↓vc_seq, xsQ, xsT, xsR, xsD, ↓reduceIte, reduceCtorEq, eq_self, ne_eq, imp_self, forall_const, Nat.reduceEqDiff, Nat.reduceAdd, Nat.reduceSub, Nat.reduceMul, Nat.reduceLT, Nat.reduceLeDiff, Nat.reduceBEq, Nat.reduceDiv, Nat.reduceMod, Int.reduceToNat, Int.reduceNeg, Int.reduceAdd, Int.reduceSub, Int.reduceMul, Int.reduceEq, Int.reduceNe, Int.reduceLT, Int.reduceLE, Int.reduceGT, Int.reduceGE, f0, f3, f9, f10, f13, h95]
              refine newI_intro fun id12 hid12 => ?_
              simp -implicitDefEqProofs (maxSteps := 1000000) (disch := omega) only [↓xsP, ↓vc_seq, xsQ, xsT, xsR, xsD, ↓reduceIte, reduceCtorEq, eq_self, ne_eq, imp_self, forall_const, Nat.reduceEqDiff, Nat.reduceAdd, Nat.reduceSub, Nat.reduceMul, Nat.reduceLT, Nat.reduceLeDiff, Nat.reduceBEq, Nat.reduceDiv, Nat.reduceMod, Int.reduceToNat, Int.reduceNeg, Int.reduceAdd, Int.reduceSub, Int.reduceMul, Int.reduceEq, Int.reduceNe, Int.reduceLT, Int.reduceLE, Int.reduceGT, Int.reduceGE, f0, f3, f9, f10, f13, h95]
              have g := GStep.frz (Mem.set_eq N5 id12 (.cells 3 [[.int .i64 nd.key]] 0))
              rw [Mem.set_set] at g
              refine callI_gs g (callI_of (XCalls.mono (K := fun r N' => ∃ (v2 : Int) (m' : List Bool) (R : List (List Lf)) (x2 : Lf) (bd : Bool) (a1 a2 a3 a4 a5 a6 : Lf), r = .l (.int .i64 v2) ∧ PSt B9 N' root ns id ids m' R x2 bd ∧ R[rows.length]? = some [a1, a2, a3, a4, a5, a6] ∧ (∀ N'' x3, PSt B N'' root ns id ids m' (R.set rows.length [a1, a2, .int .i64 v1, .int .i64 v2, a5, a6]) x3 bd → PlanK B root ns id ids (f + 1) m n i k rows (.l (.int .i64 rows.length)) N'')) (XCalls.rd (m := [.l (.ptr id 0 0), .l (.int .i64 nd.right), .l (.sl [[.int .i64 nd.key]]), .l (.sl ((hiL k).map irow))]) (.cons (.inl ⟨rfl, Fast.ptr _ _ _⟩) (.cons (.inl ⟨rfl, Fast.int _ _⟩) (.cons (.inr ⟨_, _, rfl, rfl, Rd.ms (Mem.set_eq _ _ _) (Nat.le_max_right _ _) rfl⟩) (.cons (.inl ⟨rfl, Fast.sl _⟩) .nil)))) ?_) ?_))
              · rcases hK1 with ⟨hL, T, pl, x1, hT, hmk, hsz, hr, hP5⟩ | ⟨hL, v, m', R, x1, hr, hP5, hl1, hl2, hR6⟩
                · rw [hL, if_pos rfl, show (mayS ns f (m1, n + 1) nd.left (k.lo nd.key)).2 = (marks m1 pl, (mayS ns f (m1, n + 1) nd.left (k.lo nd.key)).2.2) from Prod.ext hmk rfl] at hmay
                  have hr1 : v1 = ((rows ++ [ph]).length : Nat) := by
                    injection hr with hr
                    injection hr
                  have hP6 := hP5.new hid12 (.cells 3 [[.int .i64 nd.key]] 1)
                  have hm2 := mayS_len ns f (m1, n + 1) nd.left (k.lo nd.key)
                  rw [hmk] at hm2
                  have hm2l := hm2.1
                  have hm2u := hm2.2.1
                  simp only at hm2l hm2u
                  have hlT : ((rows ++ [ph]) ++ preR (rows ++ [ph]).length T).length = rows.length + 1 + T.size := by
                    rw [List.length_append, preR_len, List.length_append]; rfl
                  have sp := plan_spec root ns hns hp id ids f B9 (marks m1 pl) (mayS ns f (m1, n + 1) nd.left (k.lo nd.key)).2.2 nd.right (k.hi nd.key) ((rows ++ [ph]) ++ preR (rows ++ [ph]).length T) x1 _ (by omega) (by omega) (by rw [hlT]; omega) (fun r hr => by
                    rcases List.mem_append.1 hr with hr | hr
                    · exact h6' r hr
                    · exact preR_6 _ _ r hr) hP6
                  rw [show (loL (k.hi nd.key)).map irow = [[.int .i64 nd.key]] from rfl, show (hiL (k.hi nd.key)).map irow = (hiL k).map irow from rfl] at sp
                  refine sp.mono ?_
                  rintro r N7 (⟨hR, T2, pl2, x2, hT2, hmk2, hsz2, rfl, hP7⟩ | ⟨hR, v2, m', R, x2, rfl, hP7, hl1, hl2, hR6⟩)
                  · have eR : ((rows ++ [ph]) ++ preR (rows ++ [ph]).length T) ++ preR ((rows ++ [ph]) ++ preR (rows ++ [ph]).length T).length T2 = rows ++ ph :: (preR (rows.length + 1) T ++ preR (rows.length + 1 + T.size) T2) := by
                      rw [hlT, List.length_append]
                      simp
                    refine ⟨_, _, _, x2, false, .bool true, .int .i64 nd.key, .int .i64 0, .int .i64 0, .nils, .int .i64 0, rfl, hP7, ?_, fun N'' x3 hP8 => ?_⟩
                    · rw [eR, get_mid, hph]
                    · rw [eR, set_mid, hlT, hr1] at hP8
                      refine .inl ⟨by rw [hmay]; exact hR, .fork nd.key T T2, i :: (pl ++ pl2), x3, .fork hi (hnd.trans hfn) hT hT2, ?_, ?_, rfl, ?_⟩
                      · rw [hmay, hmk2, marks_cons, marks_app, hm1]
                      · rw [marks_cons, marks_app, hm1]
                        simp only [Tr.size]
                        omega
                      · rw [marks_cons, marks_app, hm1, preR]
                        rw [show (rows ++ [ph]).length = rows.length + 1 by simp] at hP8
                        exact hP8
                  · rw [hlT] at hl1 hl2
                    obtain ⟨a1, a2, a3, a4, a5, a6, hg⟩ := hR6.get (i := rows.length) (by omega)
                    exact ⟨v2, m', R, x2, true, a1, a2, a3, a4, a5, a6, rfl, hP7, hg, fun N'' x3 hP8 => .inr ⟨by rw [hmay]; exact hR, rows.length, m', _, x3, rfl, hP8, by rw [List.length_set]; omega, by rw [List.length_set]; omega, hR6.set rfl⟩⟩
                · rw [hL, if_neg (by decide)] at hmay
                  rw [show (rows ++ [ph]).length = rows.length + 1 by simp] at hl1 hl2
                  refine (plan_bad B9 _ root ns id ids m' R x1 _ _ _ (hP5.new hid12 _)).mono ?_
                  rintro r N7 ⟨rfl, hP7⟩
                  obtain ⟨a1, a2, a3, a4, a5, a6, hg⟩ := hR6.get (i := rows.length) (by omega)
                  exact ⟨0, m', R, x1, true, a1, a2, a3, a4, a5, a6, rfl, hP7, hg, fun N'' x3 hP8 => .inr ⟨by rw [hmay], rows.length, m', _, x3, rfl, hP8, by rw [List.length_set]; omega, by rw [List.length_set]; omega, hR6.set rfl⟩⟩
              · rintro r N7 ⟨v2, m', R, x2, bd, a1, a2, a3, a4, a5, a6, rfl, hP7, hget, hfin⟩
                simp -implicitDefEqProofs (maxSteps := 1000000) (disch := omega) only [↓xsP, ↓vc_seq, xsQ, xsT, xsR, xsD, ↓reduceIte, reduceCtorEq, eq_self, ne_eq, imp_self, forall_const, Nat.reduceEqDiff, Nat.reduceAdd, Nat.reduceSub, Nat.reduceMul, Nat.reduceLT, Nat.reduceLeDiff, Nat.reduceBEq, Nat.reduceDiv, Nat.reduceMod, Int.reduceToNat, Int.reduceNeg, Int.reduceAdd, Int.reduceSub, Int.reduceMul, Int.reduceEq, Int.reduceNe, Int.reduceLT, Int.reduceLE, Int.reduceGT, Int.reduceGE, f0, f10, f13]
                exact ⟨v2, m', R, x2, bd, a1, a2, a3, a4, a5, a6, rfl, hP7, hget, hfin⟩
            · rintro fr N7 ⟨v2, m', R, x2, bd, a1, a2, a3, a4, a5, a6, f14, hP7, hget, hfin, f0, f10, f13⟩
              have hown7 := hP7.own
              rw [plB] at hown7
              have hRl : rows.length < R.length := (List.getElem?_eq_some_iff.1 hget).1
              obtain ⟨idn, rfl, hidn, hBn, kni, kns⟩ := hP7.ms (fun e => by rw [e] at hRl; simp at hRl)
              simp -implicitDefEqProofs (maxSteps := 1000000) (disch := omega) only [↓xsP, ↓vc_seq, xsQ, xsT, xsR, xsD, ↓reduceIte, reduceCtorEq, eq_self, ne_eq, imp_self, forall_const, Nat.reduceEqDiff, Nat.reduceAdd, Nat.reduceSub, Nat.reduceMul, Nat.reduceLT, Nat.reduceLeDiff, Nat.reduceBEq, Nat.reduceDiv, Nat.reduceMod, Int.reduceToNat, Int.reduceNeg, Int.reduceAdd, Int.reduceSub, Int.reduceMul, Int.reduceEq, Int.reduceNe, Int.reduceLT, Int.reduceLE, Int.reduceGT, Int.reduceGE, f0, f10, f13, f14, hown7, hidn]
              refine xwrite (fun n0 => [ (14, idn), (17, idn)]) [14, 17] [] [[], [], [], [], [], [], [], [], [], [14], [], [14], [], [], [], [], [], []] (by kernel_rfl) (by kernel_rfl) (by kernel_rfl) (by kernel_rfl) (fun n0 hn0 => ⟨rfl, ?_, ?_⟩)
              · exact TOk_cons (.inl (lt_of_bnd hn0 hidn)) (TOk_cons (.inl (lt_of_bnd hn0 hidn)) (TOk_nil _ _))
              have yi := lt_of_bnd hn0 hP7.own
              have yn := lt_of_bnd hn0 hidn
              have hget2 : ∀ y, (R.set rows.length y)[rows.length]? = some y := fun y => List.getElem?_set_self hRl
              simp -implicitDefEqProofs (maxSteps := 1000000) (disch := omega) only [↓xsP, ↓vc_seq, xsQ, xsT, xsR, xsD, ↓reduceIte, reduceCtorEq, eq_self, ne_eq, imp_self, forall_const, Nat.reduceEqDiff, Nat.reduceAdd, Nat.reduceSub, Nat.reduceMul, Nat.reduceLT, Nat.reduceLeDiff, Nat.reduceBEq, Nat.reduceDiv, Nat.reduceMod, Int.reduceToNat, Int.reduceNeg, Int.reduceAdd, Int.reduceSub, Int.reduceMul, Int.reduceEq, Int.reduceNe, Int.reduceLT, Int.reduceLE, Int.reduceGT, Int.reduceGE, f0, f10, f13, f14, hown7, hidn, hget, hget2]
              exact fin_ok (Mem.le_refl _) (hfin _ _ ((hP7.wkB hBB).upd (by
                cases hb' : B idn with
                | none => rfl
                | some bk => rw [hBB _ _ hb'] at hBn; cases hBn) kni kns (by rw [List.length_set])))
end Go.X
