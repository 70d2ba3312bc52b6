/- Witnesses: Took. -/
import Derived.Test.YtjhpfaiiknpnmaaGcm
import Derived.Test.YtjhpfaiiknpnmaaZ5
set_option linter.unusedVariables false
set_option linter.unusedSimpArgs false
set_option maxHeartbeats 20000000
set_option maxRecDepth 100000
namespace Go.X
open Go.Proofs.Try (prog)

/-- A witness's row, of works as they stand. -/
def gRow (mid : Nat) (o : Lf) (c : Nat) (rs : List (List Lf)) : List Lf := .ptr mid 0 0 :: (rs.flatten ++ [.int .i64 c, o])
theorem g_of (mid : Nat) (o : Lf) (W : Wit) : wRow mid o W = gRow mid o W.calls (W.ws.map Wk.row) := rfl
theorem gw_put {r : List Lf} {j : Nat} {xs : List Lf} : ∀ (rs : List (List Lf)) (t : Nat), (∀ x ∈ rs, x.length = 13) → t < rs.length → j + xs.length ≤ 13 →
    (rs.flatten ++ r).take (t * 13 + j) ++ xs ++ (rs.flatten ++ r).drop (t * 13 + j + xs.length) = (rs.set t ((rs.getD t default).take j ++ xs ++ (rs.getD t default).drop (j + xs.length))).flatten ++ r
  | [], t, _, ht, _ => by simp at ht
  | x :: rs, 0, h13, _, hj => by
    have hx := h13 x (by simp)
    simp only [Nat.zero_mul, Nat.zero_add, List.flatten_cons, List.append_assoc, List.set_cons_zero, List.getD_cons_zero]
    rw [List.take_append_of_le_length (by omega), List.drop_append_of_le_length (by omega)]
  | x :: rs, t + 1, h13, ht, hj => by
    have hx := h13 x (by simp)
    have ih := gw_put (r := r) (j := j) (xs := xs) rs t (fun y hy => h13 y (by simp [hy])) (by simpa using ht) hj
    have e1 : (t + 1) * 13 + j = x.length + (t * 13 + j) := by omega
    have e2 : (t + 1) * 13 + j + xs.length = x.length + (t * 13 + j + xs.length) := by omega
    rw [e1, show x.length + (t * 13 + j) + xs.length = x.length + (t * 13 + j + xs.length) by omega]
    simp only [List.flatten_cons, List.append_assoc, List.set_cons_succ, List.getD_cons_succ]
    rw [List.take_length_add_append, List.drop_length_add_append]
    simp only [List.append_assoc] at ih ⊢
    rw [ih]
theorem g_put {mid : Nat} {o : Lf} {c t j : Nat} {xs : List Lf} {rs : List (List Lf)} (h13 : ∀ x ∈ rs, x.length = 13) (ht : t < rs.length) (hj : j + xs.length ≤ 13) :
    (gRow mid o c rs).take (1 + t * 13 + j) ++ xs ++ (gRow mid o c rs).drop (1 + t * 13 + j + xs.length) = gRow mid o c (rs.set t ((rs.getD t default).take j ++ xs ++ (rs.getD t default).drop (j + xs.length))) := by
  have := gw_put (r := [.int .i64 c, o]) (j := j) (xs := xs) rs t h13 ht hj
  rw [gRow, gRow, show 1 + t * 13 + j = (t * 13 + j) + 1 by omega, List.take_succ_cons, show t * 13 + j + 1 + xs.length = (t * 13 + j + xs.length) + 1 by omega, List.drop_succ_cons, List.cons_append, List.cons_append, this]
theorem gw_drop : ∀ (rs : List (List Lf)) (t : Nat) (r : List Lf), (∀ x ∈ rs, x.length = 13) → t < rs.length → (rs.flatten ++ r).drop (t * 13) = rs.getD t default ++ (rs.flatten ++ r).drop (t * 13 + 13)
  | [], t, r, _, ht => by simp at ht
  | x :: rs, 0, r, h13, _ => by
    have hx := h13 x (by simp)
    simp only [Nat.zero_mul, Nat.zero_add, List.drop_zero, List.flatten_cons, List.append_assoc, List.getD_cons_zero]
    rw [← hx, List.drop_left]
  | x :: rs, t + 1, r, h13, ht => by
    have hx := h13 x (by simp)
    have ih := gw_drop rs t r (fun y hy => h13 y (by simp [hy])) (by simpa using ht)
    rw [show (t + 1) * 13 = x.length + t * 13 by omega, show x.length + t * 13 + 13 = x.length + (t * 13 + 13) by omega]
    simp only [List.flatten_cons, List.append_assoc, List.getD_cons_succ]
    rw [List.drop_length_add_append, List.drop_length_add_append, ih]
theorem g_drop {mid : Nat} {o : Lf} {c t : Nat} {rs : List (List Lf)} (h13 : ∀ x ∈ rs, x.length = 13) (ht : t < rs.length) (j : Nat) : (gRow mid o c rs).drop (1 + t * 13 + j) = (rs.getD t default ++ (gRow mid o c rs).drop (1 + t * 13 + 13)).drop j := by
  have : (gRow mid o c rs).drop (1 + t * 13) = rs.getD t default ++ (gRow mid o c rs).drop (1 + t * 13 + 13) := by
    rw [gRow, show 1 + t * 13 = (t * 13) + 1 by omega, List.drop_succ_cons, gw_drop rs t _ h13 ht, show t * 13 + 1 + 13 = (t * 13 + 13) + 1 by omega, List.drop_succ_cons]
  rw [← this, List.drop_drop]
theorem g_len {mid : Nat} {o : Lf} {c : Nat} : ∀ {rs : List (List Lf)}, (∀ x ∈ rs, x.length = 13) → (gRow mid o c rs).length = 13 * rs.length + 3 := by
  intro rs h13
  have : ∀ (rs : List (List Lf)), (∀ x ∈ rs, x.length = 13) → rs.flatten.length = 13 * rs.length := by
    intro rs
    induction rs with
    | nil => intro _; rfl
    | cons x rs ih =>
      intro h
      rw [List.flatten_cons, List.length_append, ih (fun y hy => h y (by simp [hy])), h x (by simp), List.length_cons]
      omega
  rw [gRow, List.length_cons, List.length_append, this rs h13]
  rfl
theorem w_ord {W : Wit} {mid : Nat} {o o' : Lf} (h : W.ws.length = 6) : (wRow mid o W).take 80 ++ [o'] ++ (wRow mid o W).drop 81 = wRow mid o' W := by
  have h1 : (wRow mid o W).take 80 = .ptr mid 0 0 :: ((W.ws.map Wk.row).flatten ++ [.int .i64 W.calls]) := by
    rw [wRow, show 80 = 79 + 1 from rfl, List.take_succ_cons, List.take_append, works_len, h, List.take_of_length_le (by rw [works_len, h]; decide)]
    rfl
  have h2 : (wRow mid o W).drop 81 = [] := List.drop_of_length_le (by rw [w_len h]; decide)
  rw [h1, h2, wRow]
  simp
theorem wapp_nilG {P : Program} {M : Mem} {nid : Nat} {t tx e : TypeId} {ti te : TI} (hti : tiOf P t = some ti) (hd : ti.d = .slice e) (hte : tiOf P e = some te) (hz : zeroFits P e = true) (hpos : 0 < te.size) {x : AV} (src : List (List Lf)) (hsrc : srcRows P M t tx e te x = some src) (hne : src ≠ [])
    (hb : src.length * te.bytes ≤ 140737488355328) (hb' : src.length ≤ 140737488355328) {C : AV → Eff → Prop} (h : C (.l (.ms nid 0 src.length)) [(nid, some (.cells e src 0))]) : @wappI P M nid t tx (.l .nils) x ⟨C⟩ := by
  show wapp P M nid t tx (.l .nils) x C
  unfold wapp
  simp only [hti, hd, hte, hsrc, optK]
  exact ⟨hz, hpos, fun h => absurd h hne, fun _ => ⟨hb, hb', h⟩⟩
def canTook (W : Wit) (t : Nat) : Bool := (W.ws.getD t default).busy && !(W.ws.getD t default).took
noncomputable def tookW (W : Wit) (t : Nat) : Wit :=
  { W with s := doL W.s (W.ws.getD t default).op, ws := W.ws.set t { W.ws.getD t default with took := true, ans := doA W.s (W.ws.getD t default).op }, ord := W.ord ++ [(W.ws.getD t default).call] }
theorem took_nil (t : Int) (M : Mem) : XCalls Go.Proofs.Try.prog 15 [.l .nilp, .l (.int .i64 t)] M fun r M' => r = .l (.bool false) ∧ M' = M := by
  refine xcalls_intro (rs := [.tmp 4]) Go.Proofs.Try.func15 rfl (by kernel_rfl) rfl rfl (by kernel_rfl) (by simp) ?_
  simp -implicitDefEqProofs (maxSteps := 1000000) (disch := omega) only [↓xsP, ↓vc_seq, xsQ, xsT, xsR, xsD, ↓reduceIte, reduceCtorEq, eq_self, ne_eq, imp_self, forall_const, Nat.reduceEqDiff, Nat.reduceAdd, Nat.reduceSub, Nat.reduceMul, Nat.reduceLT, Nat.reduceLeDiff, Nat.reduceBEq, Nat.reduceDiv, Nat.reduceMod, Int.reduceToNat, Int.reduceNeg, Int.reduceAdd, Int.reduceSub, Int.reduceMul, Int.reduceEq, Int.reduceNe, Int.reduceLT, Int.reduceLE, Int.reduceGT, Int.reduceGE]
  refine call_of (busy_nil t _) ?_
  simp -implicitDefEqProofs (maxSteps := 1000000) (disch := omega) only [↓xsP, ↓vc_seq, xsQ, xsT, xsR, xsD, ↓reduceIte, reduceCtorEq, eq_self, ne_eq, imp_self, forall_const, Nat.reduceEqDiff, Nat.reduceAdd, Nat.reduceSub, Nat.reduceMul, Nat.reduceLT, Nat.reduceLeDiff, Nat.reduceBEq, Nat.reduceDiv, Nat.reduceMod, Int.reduceToNat, Int.reduceNeg, Int.reduceAdd, Int.reduceSub, Int.reduceMul, Int.reduceEq, Int.reduceNe, Int.reduceLT, Int.reduceLE, Int.reduceGT, Int.reduceGE]
  exact fin_ok (Mem.le_refl _) ⟨rfl, rfl⟩
theorem took_out (id : Nat) (t : Int) (M : Mem) (h : t < 0 ∨ 6 ≤ t) : XCalls Go.Proofs.Try.prog 15 [.l (.ptr id 0 0), .l (.int .i64 t)] M fun r M' => r = .l (.bool false) ∧ M' = M := by
  refine xcalls_intro (rs := [.tmp 4]) Go.Proofs.Try.func15 rfl (by kernel_rfl) rfl rfl (by kernel_rfl) (by simp) ?_
  simp -implicitDefEqProofs (maxSteps := 1000000) (disch := omega) only [↓xsP, ↓vc_seq, xsQ, xsT, xsR, xsD, ↓reduceIte, reduceCtorEq, eq_self, ne_eq, imp_self, forall_const, Nat.reduceEqDiff, Nat.reduceAdd, Nat.reduceSub, Nat.reduceMul, Nat.reduceLT, Nat.reduceLeDiff, Nat.reduceBEq, Nat.reduceDiv, Nat.reduceMod, Int.reduceToNat, Int.reduceNeg, Int.reduceAdd, Int.reduceSub, Int.reduceMul, Int.reduceEq, Int.reduceNe, Int.reduceLT, Int.reduceLE, Int.reduceGT, Int.reduceGE]
  refine call_of (busy_out _ t _ h) ?_
  simp -implicitDefEqProofs (maxSteps := 1000000) (disch := omega) only [↓xsP, ↓vc_seq, xsQ, xsT, xsR, xsD, ↓reduceIte, reduceCtorEq, eq_self, ne_eq, imp_self, forall_const, Nat.reduceEqDiff, Nat.reduceAdd, Nat.reduceSub, Nat.reduceMul, Nat.reduceLT, Nat.reduceLeDiff, Nat.reduceBEq, Nat.reduceDiv, Nat.reduceMod, Int.reduceToNat, Int.reduceNeg, Int.reduceAdd, Int.reduceSub, Int.reduceMul, Int.reduceEq, Int.reduceNe, Int.reduceLT, Int.reduceLE, Int.reduceGT, Int.reduceGE]
  exact fin_ok (Mem.le_refl _) ⟨rfl, rfl⟩
theorem took_in {B M : Mem} {id mid : Nat} {o : Lf} {W : Wit} (hW : WIn B M id mid o W) (t : Nat) (ht : t < 6) (hs : W.s.length ≤ 1000000) (hor : W.ord.length ≤ 1000) :
    XCalls Go.Proofs.Try.prog 15 [.l (.ptr id 0 0), .l (.int .i64 t)] M fun r M' => r = .l (.bool (canTook W t)) ∧ ∃ o', WIn B M' id mid o' (if canTook W t = true then tookW W t else W) := by
  refine xcalls_intro (rs := [.tmp 4]) Go.Proofs.Try.func15 rfl (by kernel_rfl) rfl rfl (by kernel_rfl) (by simp) ?_
  have hM := hW.own
  rw [wB] at hM
  have ht6 : t < W.ws.length := by have := hW.six; omega
  have hd := w_drop (W := W) (mid := mid) (o := o) ht6
  have hln := w_len (W := W) (mid := mid) (o := o) hW.six
  rw [row_wk] at hd
  simp -implicitDefEqProofs (maxSteps := 1000000) (disch := omega) only [↓xsP, ↓vc_seq, xsQ, xsT, xsR, xsD, ↓reduceIte, reduceCtorEq, eq_self, ne_eq, imp_self, forall_const, Nat.reduceEqDiff, Nat.reduceAdd, Nat.reduceSub, Nat.reduceMul, Nat.reduceLT, Nat.reduceLeDiff, Nat.reduceBEq, Nat.reduceDiv, Nat.reduceMod, Int.reduceToNat, Int.reduceNeg, Int.reduceAdd, Int.reduceSub, Int.reduceMul, Int.reduceEq, Int.reduceNe, Int.reduceLT, Int.reduceLE, Int.reduceGT, Int.reduceGE]
  refine call_of (busy_in hW t ht) ?_
  rw [canTook]
  cases hb : (W.ws.getD t default).busy with
  | false =>
    simp -implicitDefEqProofs (maxSteps := 1000000) (disch := omega) only [↓xsP, ↓vc_seq, xsQ, xsT, xsR, xsD, ↓reduceIte, reduceCtorEq, eq_self, ne_eq, imp_self, forall_const, Nat.reduceEqDiff, Nat.reduceAdd, Nat.reduceSub, Nat.reduceMul, Nat.reduceLT, Nat.reduceLeDiff, Nat.reduceBEq, Nat.reduceDiv, Nat.reduceMod, Int.reduceToNat, Int.reduceNeg, Int.reduceAdd, Int.reduceSub, Int.reduceMul, Int.reduceEq, Int.reduceNe, Int.reduceLT, Int.reduceLE, Int.reduceGT, Int.reduceGE]
    refine fin_ok (Mem.le_refl _) ⟨rfl, o, ?_⟩
    simpa using hW
  | true =>
    simp -implicitDefEqProofs (maxSteps := 1000000) (disch := omega) only [↓xsP, ↓vc_seq, xsQ, xsT, xsR, xsD, ↓reduceIte, reduceCtorEq, eq_self, ne_eq, imp_self, forall_const, Nat.reduceEqDiff, Nat.reduceAdd, Nat.reduceSub, Nat.reduceMul, Nat.reduceLT, Nat.reduceLeDiff, Nat.reduceBEq, Nat.reduceDiv, Nat.reduceMod, Int.reduceToNat, Int.reduceNeg, Int.reduceAdd, Int.reduceSub, Int.reduceMul, Int.reduceEq, Int.reduceNe, Int.reduceLT, Int.reduceLE, Int.reduceGT, Int.reduceGE]
    rw [if_pos ⟨by omega, by omega⟩]
    have hd6 : (wRow mid o W).drop (1 + t * 13 + 6) = ((W.ws.getD t default).row ++ (wRow mid o W).drop (1 + t * 13 + 13)).drop 6 := by
      rw [← w_drop ht6, List.drop_drop]
    rw [row_wk] at hd6
    simp -implicitDefEqProofs (maxSteps := 1000000) (disch := omega) only [↓xsP, ↓vc_seq, xsQ, xsT, xsR, xsD, ↓reduceIte, reduceCtorEq, eq_self, ne_eq, imp_self, forall_const, Nat.reduceEqDiff, Nat.reduceAdd, Nat.reduceSub, Nat.reduceMul, Nat.reduceLT, Nat.reduceLeDiff, Nat.reduceBEq, Nat.reduceDiv, Nat.reduceMod, Int.reduceToNat, Int.reduceNeg, Int.reduceAdd, Int.reduceSub, Int.reduceMul, Int.reduceEq, Int.reduceNe, Int.reduceLT, Int.reduceLE, Int.reduceGT, Int.reduceGE, hM, hd6]
    cases htk : (W.ws.getD t default).took with
    | true =>
      simp -implicitDefEqProofs (maxSteps := 1000000) (disch := omega) only [↓xsP, ↓vc_seq, xsQ, xsT, xsR, xsD, ↓reduceIte, reduceCtorEq, eq_self, ne_eq, imp_self, forall_const, Nat.reduceEqDiff, Nat.reduceAdd, Nat.reduceSub, Nat.reduceMul, Nat.reduceLT, Nat.reduceLeDiff, Nat.reduceBEq, Nat.reduceDiv, Nat.reduceMod, Int.reduceToNat, Int.reduceNeg, Int.reduceAdd, Int.reduceSub, Int.reduceMul, Int.reduceEq, Int.reduceNe, Int.reduceLT, Int.reduceLE, Int.reduceGT, Int.reduceGE]
      refine fin_ok (Mem.le_refl _) ⟨rfl, o, ?_⟩
      simpa using hW
    | false =>
      simp -implicitDefEqProofs (maxSteps := 1000000) (disch := omega) only [↓xsP, ↓vc_seq, xsQ, xsT, xsR, xsD, ↓reduceIte, reduceCtorEq, eq_self, ne_eq, imp_self, forall_const, Nat.reduceEqDiff, Nat.reduceAdd, Nat.reduceSub, Nat.reduceMul, Nat.reduceLT, Nat.reduceLeDiff, Nat.reduceBEq, Nat.reduceDiv, Nat.reduceMod, Int.reduceToNat, Int.reduceNeg, Int.reduceAdd, Int.reduceSub, Int.reduceMul, Int.reduceEq, Int.reduceNe, Int.reduceLT, Int.reduceLE, Int.reduceGT, Int.reduceGE]
      rw [if_pos ⟨by omega, by omega⟩]
      have hle1 : (1 + t * 13 + 6 + 1 ≤ 81) = True := eq_true (by omega)
      simp -implicitDefEqProofs (maxSteps := 1000000) (disch := omega) only [↓xsP, ↓vc_seq, xsQ, xsT, xsR, xsD, ↓reduceIte, reduceCtorEq, eq_self, ne_eq, imp_self, forall_const, Nat.reduceEqDiff, Nat.reduceAdd, Nat.reduceSub, Nat.reduceMul, Nat.reduceLT, Nat.reduceLeDiff, Nat.reduceBEq, Nat.reduceDiv, Nat.reduceMod, Int.reduceToNat, Int.reduceNeg, Int.reduceAdd, Int.reduceSub, Int.reduceMul, Int.reduceEq, Int.reduceNe, Int.reduceLT, Int.reduceLE, Int.reduceGT, Int.reduceGE, hM, hd6, hln, hle1]
      have hmid := hW.map
      have hne := hW.ne
      refine xwrite (fun n0 => [ (9, mid), (12, id)]) [9, 12] [] [[9], [], [], [], [], [], [], [], [], [], [], [], []] (by kernel_rfl) (by kernel_rfl) (by kernel_rfl) (by kernel_rfl) (fun n0 hn0 => ⟨rfl, ?_, ?_⟩)
      · exact TOk_cons (.inl (lt_of_bnd hn0 (by rw [Mem.set_ne _ _ _ _ (by omega)]; exact hmid))) (TOk_cons (.inl (lt_of_bnd hn0 (Mem.set_eq _ id _))) (TOk_nil _ _))
      · have k0 := lt_of_bnd hn0 (Mem.set_eq _ id _)
        have k1 : mid < n0 := lt_of_bnd hn0 (by rw [Mem.set_ne _ _ _ _ (by omega)]; exact hmid)
        simp -implicitDefEqProofs (maxSteps := 1000000) (disch := omega) only [↓xsP, ↓vc_seq, xsQ, xsT, xsR, xsD, ↓reduceIte, reduceCtorEq, eq_self, ne_eq, imp_self, forall_const, Nat.reduceEqDiff, Nat.reduceAdd, Nat.reduceSub, Nat.reduceMul, Nat.reduceLT, Nat.reduceLeDiff, Nat.reduceBEq, Nat.reduceDiv, Nat.reduceMod, Int.reduceToNat, Int.reduceNeg, Int.reduceAdd, Int.reduceSub, Int.reduceMul, Int.reduceEq, Int.reduceNe, Int.reduceLT, Int.reduceLE, Int.reduceGT, Int.reduceGE, hM, hd6, hln, hle1]
        obtain ⟨w, hw⟩ : ∃ w, W.ws.getD t default = w := ⟨_, rfl⟩
        obtain ⟨rs, hrs⟩ : ∃ rs, rs = W.ws.map Wk.row := ⟨_, rfl⟩
        have hr6 : rs.length = 6 := by rw [hrs, List.length_map]; exact hW.six
        have hr13 : ∀ x ∈ rs, x.length = 13 := fun x hx => by
          rw [hrs] at hx
          obtain ⟨y, _, rfl⟩ := List.mem_map.1 hx
          rfl
        have hrt : rs.getD t default = w.row := by
          rw [hrs, List.getD_eq_getElem?_getD, List.getElem?_map, List.getElem?_eq_getElem ht6, ← hw, List.getD_eq_getElem?_getD, List.getElem?_eq_getElem ht6]
          rfl
        rw [hw] at hb htk
        rw [row_wk, hb, htk] at hrt
        simp only [Bool.false_eq_true, if_false] at hrt
        obtain ⟨r1, hr1⟩ : ∃ r1 : List Lf, r1 = [.bool true, .int .i64 w.op.kind, .int .i64 w.op.key, .int .i64 w.op.to, .int .i64 w.op.val, .int .i64 w.call, .bool true, .int .i64 w.ans.err, .bool w.ans.ok, .int .i64 w.ans.pair.key, .int .i64 w.ans.pair.val, .int .i64 w.ans.n, .nils] := ⟨_, rfl⟩
        have hput1 := g_put (mid := mid) (o := o) (c := W.calls) (t := t) (j := 6) (xs := [.bool true]) hr13 (by omega) (by decide)
        rw [hrt, show ([.bool true, .int .i64 w.op.kind, .int .i64 w.op.key, .int .i64 w.op.to, .int .i64 w.op.val, .int .i64 w.call, .bool false, .int .i64 w.ans.err, .bool w.ans.ok, .int .i64 w.ans.pair.key, .int .i64 w.ans.pair.val, .int .i64 w.ans.n, .nils] : List Lf).take 6 ++ [.bool true] ++ ([.bool true, .int .i64 w.op.kind, .int .i64 w.op.key, .int .i64 w.op.to, .int .i64 w.op.val, .int .i64 w.call, .bool false, .int .i64 w.ans.err, .bool w.ans.ok, .int .i64 w.ans.pair.key, .int .i64 w.ans.pair.val, .int .i64 w.ans.n, .nils] : List Lf).drop (6 + ([.bool true] : List Lf).length) = r1 from by rw [hr1]; rfl] at hput1
        rw [show wRow mid o W = gRow mid o W.calls rs by rw [hrs, g_of]]
        rw [show 1 + t * 13 + 6 + 1 = 1 + t * 13 + 6 + ([.bool true] : List Lf).length from rfl, hput1]
        obtain ⟨rs1, hrs1⟩ : ∃ rs1, rs1 = rs.set t r1 := ⟨_, rfl⟩
        have h16 : rs1.length = 6 := by rw [hrs1]; simpa using hr6
        have h113 : ∀ x ∈ rs1, x.length = 13 := fun x hx => by
          rw [hrs1] at hx
          rcases List.mem_or_eq_of_mem_set hx with hx | rfl
          · exact hr13 _ hx
          · rw [hr1]; rfl
        have h1t : rs1.getD t default = r1 := by rw [hrs1, getD_set _ _ _ _ _ (by omega), if_pos rfl]
        have hg1 := fun j => g_drop (mid := mid) (o := o) (c := W.calls) h113 (show t < rs1.length by omega) j
        rw [h1t, hr1] at hg1
        have hl1 := g_len (mid := mid) (o := o) (c := W.calls) h113
        rw [h16] at hl1
        rw [← hrs1]
        have hp0 : packV false 1 (gRow mid o W.calls rs1) = some (.l (.ptr mid 0 0)) := rfl
        have hg11 := hg1 1
        have hg15 := hg1 5
        simp only [List.cons_append, List.nil_append, List.drop_succ_cons, List.drop_zero] at hg11 hg15
        simp -implicitDefEqProofs (maxSteps := 1000000) (disch := omega) only [↓xsP, ↓vc_seq, xsQ, xsT, xsR, xsD, ↓reduceIte, reduceCtorEq, eq_self, ne_eq, imp_self, forall_const, Nat.reduceEqDiff, Nat.reduceAdd, Nat.reduceSub, Nat.reduceMul, Nat.reduceLT, Nat.reduceLeDiff, Nat.reduceBEq, Nat.reduceDiv, Nat.reduceMod, Int.reduceToNat, Int.reduceNeg, Int.reduceAdd, Int.reduceSub, Int.reduceMul, Int.reduceEq, Int.reduceNe, Int.reduceLT, Int.reduceLE, Int.reduceGT, Int.reduceGE, hp0, hg11]
        refine ⟨.agg (doA W.s w.op).row, [(mid, some (mapB (doL W.s w.op)))], fun M' hle => (modelDo_spec W.s (by omega) w.op mid M' (hle _ _ (by rw [Mem.set_ne _ _ _ _ (by omega)]; exact hmid))).mono ?_, ?_⟩
        · rintro _ _ ⟨rfl, rfl⟩
          exact ⟨rfl, Mem.le_refl _⟩
        have hle2 : (1 + t * 13 + 7 + 6 ≤ 13 * 6 + 3) = True := eq_true (by omega)
        simp -implicitDefEqProofs (maxSteps := 1000000) (disch := omega) only [↓xsP, ↓vc_seq, xsQ, xsT, xsR, xsD, ↓reduceIte, reduceCtorEq, eq_self, ne_eq, imp_self, forall_const, Nat.reduceEqDiff, Nat.reduceAdd, Nat.reduceSub, Nat.reduceMul, Nat.reduceLT, Nat.reduceLeDiff, Nat.reduceBEq, Nat.reduceDiv, Nat.reduceMod, Int.reduceToNat, Int.reduceNeg, Int.reduceAdd, Int.reduceSub, Int.reduceMul, Int.reduceEq, Int.reduceNe, Int.reduceLT, Int.reduceLE, Int.reduceGT, Int.reduceGE, hl1, hle2]
        obtain ⟨nw, hnw⟩ : ∃ nw : Wk, nw = { w with took := true, ans := doA W.s w.op } := ⟨_, rfl⟩
        obtain ⟨V, hV⟩ : ∃ V : Wit, V = { W with ws := W.ws.set t nw } := ⟨_, rfl⟩
        have hput2 := g_put (mid := mid) (o := o) (c := W.calls) (t := t) (j := 7) (xs := (doA W.s w.op).row) h113 (by omega) (by show 7 + 6 ≤ 13; decide)
        rw [h1t, hr1, hrs1, List.set_set] at hput2
        have hfold : rs.set t (([.bool true, .int .i64 w.op.kind, .int .i64 w.op.key, .int .i64 w.op.to, .int .i64 w.op.val, .int .i64 w.call, .bool true, .int .i64 w.ans.err, .bool w.ans.ok, .int .i64 w.ans.pair.key, .int .i64 w.ans.pair.val, .int .i64 w.ans.n, .nils] : List Lf).take 7 ++ (doA W.s w.op).row ++ ([.bool true, .int .i64 w.op.kind, .int .i64 w.op.key, .int .i64 w.op.to, .int .i64 w.op.val, .int .i64 w.call, .bool true, .int .i64 w.ans.err, .bool w.ans.ok, .int .i64 w.ans.pair.key, .int .i64 w.ans.pair.val, .int .i64 w.ans.n, .nils] : List Lf).drop (7 + (doA W.s w.op).row.length)) = V.ws.map Wk.row := by
          rw [hV, List.map_set, hrs]
          congr 1
          rw [hnw, row_wk, hb]
          rfl
        rw [hfold, ← hrs1, row_ans] at hput2
        have hV6 : V.ws.length = 6 := by rw [hV]; simpa using hW.six
        have hVc : V.calls = W.calls := by rw [hV]
        rw [show 1 + t * 13 + 7 + 6 = 1 + t * 13 + 7 + ([.int .i64 (doA W.s w.op).err, .bool (doA W.s w.op).ok, .int .i64 (doA W.s w.op).pair.key, .int .i64 (doA W.s w.op).pair.val, .int .i64 (doA W.s w.op).n, .sl ((doA W.s w.op).pairs.map Pr.row)] : List Lf).length from rfl, hput2, ← hVc, ← g_of]
        have key : ∀ (X Y Z : Blk) (N : Mem), ((M.set id X).set mid Y).set id Z = N → N id = some Z ∧ N mid = some Y ∧ ∀ k bk, k ≠ id → k ≠ mid → M k = some bk → N k = some bk := by
          rintro X Y Z N rfl
          refine ⟨Mem.set_eq _ _ _, by rw [Mem.set_ne _ _ _ _ (by omega), Mem.set_eq], fun k bk h1 h2 h => ?_⟩
          rw [Mem.set_ne _ _ _ _ (fun e => h1 e.symm), Mem.set_ne _ _ _ _ (fun e => h2 e.symm), Mem.set_ne _ _ _ _ (fun e => h1 e.symm)]
          exact h
        generalize hN : Mem.set (Mem.set (Mem.set M _ _) _ _) _ _ = N
        obtain ⟨hNi, hNm, hNo⟩ := key _ _ _ _ hN
        clear key hN
        have hcan : (true && !false) = true := rfl
        have htk2 : tookW W t = { V with s := doL W.s w.op, ord := W.ord ++ [w.call] } := by rw [tookW, hw, hV, hnw]
        have hB : B.le N := fun k bk hk => hNo _ _ (fun e => by rw [e, hW.nid] at hk; cases hk) (fun e => by rw [e, hW.nmid] at hk; cases hk) (hW.le _ _ hk)
        have hVt : V.ws.getD t default = nw := by rw [hV]; exact (getD_set _ _ _ _ _ ht6).trans (if_pos rfl)
        have hd5 : (wRow mid o V).drop (1 + t * 13 + 5) = ((V.ws.getD t default).row ++ (wRow mid o V).drop (1 + t * 13 + 13)).drop 5 := by
          rw [← w_drop (by omega), List.drop_drop]
        rw [hVt, row_wk, hnw] at hd5
        simp only [List.cons_append, List.nil_append, List.drop_succ_cons, List.drop_zero] at hd5
        have htl := w_tail (W := V) (mid := mid) (o := o) hV6
        have hd80 : (wRow mid o V).drop 80 = [o] := by rw [show 80 = 79 + 1 from rfl, ← List.drop_drop, htl]; rfl
        have hlnV := w_len (W := V) (mid := mid) (o := o) hV6
        rcases hW.ord with ⟨q1, rfl⟩ | ⟨idO, q1, q2, q3, rfl, q5⟩
        · refine xwrite (fun n0 => [ (13, id)]) [13] [9, 10] [[], [], [], [], [], [], [], [], [], [], [], [], [], []] (by kernel_rfl) (by kernel_rfl) (by kernel_rfl) (by kernel_rfl) (fun n0 hn0 => ⟨rfl, ?_, ?_⟩)
          · exact TOk_cons (.inl (lt_of_bnd hn0 hNi)) (TOk_nil _ _)
          · have z1 := lt_of_bnd hn0 hNi
            have z2 := lt_of_bnd hn0 hNm
            simp -implicitDefEqProofs (maxSteps := 1000000) (disch := omega) only [↓xsP, ↓vc_seq, xsQ, xsT, xsR, xsD, ↓reduceIte, reduceCtorEq, eq_self, ne_eq, imp_self, forall_const, Nat.reduceEqDiff, Nat.reduceAdd, Nat.reduceSub, Nat.reduceMul, Nat.reduceLT, Nat.reduceLeDiff, Nat.reduceBEq, Nat.reduceDiv, Nat.reduceMod, Int.reduceToNat, Int.reduceNeg, Int.reduceAdd, Int.reduceSub, Int.reduceMul, Int.reduceEq, Int.reduceNe, Int.reduceLT, Int.reduceLE, Int.reduceGT, Int.reduceGE, hNi, hd80, hd5]
            refine ⟨.inl (by decide), ?_⟩
            refine wapp_nilG ti_39 rfl ti_3 (by kernel_rfl) (by decide) [irow w.call] ?_ (by simp) ?_ ?_ ?_
            · simp -implicitDefEqProofs (maxSteps := 1000000) (disch := omega) only [↓xsP, ↓vc_seq, xsQ, xsT, xsR, xsD, ↓reduceIte, reduceCtorEq, eq_self, ne_eq, imp_self, forall_const, Nat.reduceEqDiff, Nat.reduceAdd, Nat.reduceSub, Nat.reduceMul, Nat.reduceLT, Nat.reduceLeDiff, Nat.reduceBEq, Nat.reduceDiv, Nat.reduceMod, Int.reduceToNat, Int.reduceNeg, Int.reduceAdd, Int.reduceSub, Int.reduceMul, Int.reduceEq, Int.reduceNe, Int.reduceLT, Int.reduceLE, Int.reduceGT, Int.reduceGE, irow]
            · exact Nat.le_trans (Nat.mul_le_mul_right _ (show 1 ≤ 1000 by omega)) (by decide)
            · show 1 ≤ 140737488355328
              omega
            simp -implicitDefEqProofs (maxSteps := 1000000) (disch := omega) only [↓xsP, ↓vc_seq, xsQ, xsT, xsR, xsD, ↓reduceIte, reduceCtorEq, eq_self, ne_eq, imp_self, forall_const, Nat.reduceEqDiff, Nat.reduceAdd, Nat.reduceSub, Nat.reduceMul, Nat.reduceLT, Nat.reduceLeDiff, Nat.reduceBEq, Nat.reduceDiv, Nat.reduceMod, Int.reduceToNat, Int.reduceNeg, Int.reduceAdd, Int.reduceSub, Int.reduceMul, Int.reduceEq, Int.reduceNe, Int.reduceLT, Int.reduceLE, Int.reduceGT, Int.reduceGE, hNi, hlnV]
            refine ⟨.inl (by decide), ?_⟩
            rw [w_ord hV6]
            refine fin_ok (Mem.le_refl _) ⟨rfl, .ms (n0 + 10) 0 1, ?_⟩
            rw [if_pos hcan, htk2]
            have hBn : B (n0 + 10) = none := by
              cases hm : B (n0 + 10) with
              | none => rfl
              | some bk => have := hB _ _ hm; rw [hn0 _ (by omega)] at this; cases this
            have hkk : ∀ k bk, k ≠ id → N k = some bk → (((N.set (n0 + 9) (.cells 3 [[.int .i64 w.call]] 0)).set (n0 + 10) (.cells 3 [[.int .i64 w.call]] 0)).set id (.cells 83 [wRow mid (.ms (n0 + 10) 0 1) V] 0)) k = some bk := fun k bk h1 h => by
              have := lt_of_bnd hn0 h
              rw [Mem.set_ne _ _ _ _ (fun e => h1 e.symm), Mem.set_ne _ _ _ _ (by omega), Mem.set_ne _ _ _ _ (by omega)]
              exact h
            refine ⟨fun k bk hk => hkk _ _ (fun e => by rw [e, hW.nid] at hk; cases hk) (hB _ _ hk), hW.nid, hW.nmid, hW.ne, hV6, by rw [Mem.set_eq]; rfl, hkk _ _ hW.ne hNm, .inr ⟨n0 + 10, hBn, by omega, by omega, ?_, ?_⟩⟩
            · rw [q1]; rfl
            · rw [Mem.set_ne _ _ _ _ (by omega), Mem.set_eq, q1]
              rfl
        · have hNO := hNo _ _ q2 q3 q5
          refine xwrite (fun n0 => [ (10, idO), (13, id)]) [10, 13] [9, 10] [[10], [], [], [], [], [], [], [], [], [], [], [], [], []] (by kernel_rfl) (by kernel_rfl) (by kernel_rfl) (by kernel_rfl) (fun n0 hn0 => ⟨rfl, ?_, ?_⟩)
          · exact TOk_cons (.inl (lt_of_bnd hn0 hNO)) (TOk_cons (.inl (lt_of_bnd hn0 hNi)) (TOk_nil _ _))
          · have z1 := lt_of_bnd hn0 hNi
            have z2 := lt_of_bnd hn0 hNm
            have z3 := lt_of_bnd hn0 hNO
            simp -implicitDefEqProofs (maxSteps := 1000000) (disch := omega) only [↓xsP, ↓vc_seq, xsQ, xsT, xsR, xsD, ↓reduceIte, reduceCtorEq, eq_self, ne_eq, imp_self, forall_const, Nat.reduceEqDiff, Nat.reduceAdd, Nat.reduceSub, Nat.reduceMul, Nat.reduceLT, Nat.reduceLeDiff, Nat.reduceBEq, Nat.reduceDiv, Nat.reduceMod, Int.reduceToNat, Int.reduceNeg, Int.reduceAdd, Int.reduceSub, Int.reduceMul, Int.reduceEq, Int.reduceNe, Int.reduceLT, Int.reduceLE, Int.reduceGT, Int.reduceGE, hNi, hd80, hd5]
            refine ⟨.inl (by decide), ?_⟩
            refine wapp_ms _ _ _ _ _ 3 _ _ ti_39 rfl ti_3 (by kernel_rfl) (by decide) idO W.ord.length _ (rows := W.ord.map irow) (keep := 0) [irow w.call] ?_ ?_ (by simp) (Nat.zero_le _) ?_ ?_ ?_
            · rw [Mem.set_ne _ _ _ _ (by omega)]
              exact hNO
            · simp -implicitDefEqProofs (maxSteps := 1000000) (disch := omega) only [↓xsP, ↓vc_seq, xsQ, xsT, xsR, xsD, ↓reduceIte, reduceCtorEq, eq_self, ne_eq, imp_self, forall_const, Nat.reduceEqDiff, Nat.reduceAdd, Nat.reduceSub, Nat.reduceMul, Nat.reduceLT, Nat.reduceLeDiff, Nat.reduceBEq, Nat.reduceDiv, Nat.reduceMod, Int.reduceToNat, Int.reduceNeg, Int.reduceAdd, Int.reduceSub, Int.reduceMul, Int.reduceEq, Int.reduceNe, Int.reduceLT, Int.reduceLE, Int.reduceGT, Int.reduceGE, irow]
            · exact Nat.le_trans (Nat.mul_le_mul_right _ (show W.ord.length + 1 ≤ 1001 by omega)) (by decide)
            · show W.ord.length + 1 ≤ 140737488355328
              omega
            simp -implicitDefEqProofs (maxSteps := 1000000) (disch := omega) only [↓xsP, ↓vc_seq, xsQ, xsT, xsR, xsD, ↓reduceIte, reduceCtorEq, eq_self, ne_eq, imp_self, forall_const, Nat.reduceEqDiff, Nat.reduceAdd, Nat.reduceSub, Nat.reduceMul, Nat.reduceLT, Nat.reduceLeDiff, Nat.reduceBEq, Nat.reduceDiv, Nat.reduceMod, Int.reduceToNat, Int.reduceNeg, Int.reduceAdd, Int.reduceSub, Int.reduceMul, Int.reduceEq, Int.reduceNe, Int.reduceLT, Int.reduceLE, Int.reduceGT, Int.reduceGE, hNi, hlnV]
            refine ⟨.inl (by decide), ?_⟩
            rw [w_ord hV6]
            refine fin_ok (Mem.le_refl _) ⟨rfl, .ms (n0 + 10) 0 (W.ord.length + 1), ?_⟩
            rw [if_pos hcan, htk2]
            have hBn : B (n0 + 10) = none := by
              cases hm : B (n0 + 10) with
              | none => rfl
              | some bk => have := hB _ _ hm; rw [hn0 _ (by omega)] at this; cases this
            have hkk : ∀ k bk, k ≠ id → k ≠ idO → N k = some bk → ((((N.set (n0 + 9) (.cells 3 [[.int .i64 w.call]] 0)).del idO).set (n0 + 10) (.cells 3 ((W.ord.map irow).take W.ord.length ++ [[.int .i64 w.call]]) 0)).set id (.cells 83 [wRow mid (.ms (n0 + 10) 0 (W.ord.length + 1)) V] 0)) k = some bk := fun k bk h1 h2 h => by
              have := lt_of_bnd hn0 h
              rw [Mem.set_ne _ _ _ _ (fun e => h1 e.symm), Mem.set_ne _ _ _ _ (by omega), Mem.del_ne _ _ _ (fun e => h2 e.symm), Mem.set_ne _ _ _ _ (by omega)]
              exact h
            refine ⟨fun k bk hk => hkk _ _ (fun e => by rw [e, hW.nid] at hk; cases hk) (fun e => by rw [e, q1] at hk; cases hk) (hB _ _ hk), hW.nid, hW.nmid, hW.ne, hV6, by rw [Mem.set_eq]; rfl, hkk _ _ hW.ne (fun e => q3 e.symm) hNm, .inr ⟨n0 + 10, hBn, by omega, by omega, ?_, ?_⟩⟩
            · simp
            · rw [Mem.set_ne _ _ _ _ (by omega), Mem.set_eq, List.take_of_length_le (by simp), List.map_append]
              rfl
end Go.X
