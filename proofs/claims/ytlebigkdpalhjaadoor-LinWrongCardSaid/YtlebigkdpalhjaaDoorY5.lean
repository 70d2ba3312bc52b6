/- Texts joined: Ue Uf Ug Uh. -/
import Derived.Test.YtlebigkdpalhjaaDoorY4
set_option linter.unusedVariables false
set_option linter.unusedSimpArgs false
set_option maxRecDepth 100000
namespace Go.X

/-! ### one after the other -/
def seqE : Nat → List (Opn × Ans) → List Evt
  | _, [] => []
  | i, x :: r => ⟨((i % 3 : Nat) : Int), false, x.1, ans0⟩ :: ⟨((i % 3 : Nat) : Int), true, x.1, x.2⟩ :: seqE (i + 1) r
def seqC : Nat → List (Opn × Ans) → List Cl
  | _, [] => []
  | i, x :: r => ⟨((i % 3 : Nat) : Int), ((2 * i : Nat) : Int), ((2 * i + 1 : Nat) : Int), x.1, x.2⟩ :: seqC (i + 1) r
theorem seqE_len : ∀ (i : Nat) (L : List (Opn × Ans)), (seqE i L).length = 2 * L.length
  | _, [] => rfl
  | i, x :: r => by
    rw [seqE, List.length_cons, List.length_cons, seqE_len (i + 1) r, List.length_cons]
    omega
theorem seqC_len : ∀ (i : Nat) (L : List (Opn × Ans)), (seqC i L).length = L.length
  | _, [] => rfl
  | i, x :: r => by rw [seqC, List.length_cons, seqC_len (i + 1) r, List.length_cons]
theorem seqE_snoc : ∀ (i : Nat) (L : List (Opn × Ans)) (x : Opn × Ans), seqE i (L ++ [x]) = seqE i L ++ [⟨(((i + L.length) % 3 : Nat) : Int), false, x.1, ans0⟩, ⟨(((i + L.length) % 3 : Nat) : Int), true, x.1, x.2⟩]
  | i, [], x => rfl
  | i, y :: r, x => by
    rw [List.cons_append, seqE, seqE_snoc (i + 1) r x, seqE, List.length_cons, show i + 1 + r.length = i + (r.length + 1) by omega]
    rfl
theorem seqC_get : ∀ (i : Nat) (L : List (Opn × Ans)) (j : Nat), j < L.length → (seqC i L).getD j default = ⟨(((i + j) % 3 : Nat) : Int), ((2 * (i + j) : Nat) : Int), ((2 * (i + j) + 1 : Nat) : Int), (L.getD j default).1, (L.getD j default).2⟩
  | _, [], j, h => by simp at h
  | i, x :: r, 0, _ => by simp [seqC]
  | i, x :: r, j + 1, h => by
    have := seqC_get (i + 1) r j (by simpa using h)
    rw [seqC, List.getD_cons_succ, List.getD_cons_succ, this, show i + 1 + j = i + (j + 1) by omega]
theorem rrun_seq : ∀ (i k : Nat) (C : List Cl) (L : List (Opn × Ans)), k = 2 * i → (∀ x ∈ L, mayOpB x.1 = true) → rrun (seqE i L) k (C, []) = some (C ++ seqC i L, [])
  | i, k, C, [], _, _ => by simp [seqE, seqC, rrun]
  | i, k, C, x :: r, hk, h => by
    have hx := h x (by simp)
    have h1 : rstep k ⟨((i % 3 : Nat) : Int), false, x.1, ans0⟩ (C, []) = some (C ++ [⟨((i % 3 : Nat) : Int), k, -1, x.1, ans0⟩], [(((i % 3 : Nat) : Int), (C.length : Int) + 1)]) := by
      rw [rstep, if_neg (by simp only; omega), if_pos rfl, if_neg (by simp [iget, hx])]
      rfl
    have h2 : rstep (k + 1) ⟨((i % 3 : Nat) : Int), true, x.1, x.2⟩ (C ++ [⟨((i % 3 : Nat) : Int), k, -1, x.1, ans0⟩], [(((i % 3 : Nat) : Int), (C.length : Int) + 1)]) = some (C ++ [⟨((i % 3 : Nat) : Int), k, ((k + 1 : Nat) : Int), x.1, x.2⟩], []) := by
      have e1 : (iget [(((i % 3 : Nat) : Int), (C.length : Int) + 1)] ((i % 3 : Nat) : Int)).getD 0 = (C.length : Int) + 1 := by simp [iget]
      have e2 : ((C.length : Int) + 1 - 1).toNat = C.length := by omega
      have e3 : (C ++ [(⟨((i % 3 : Nat) : Int), k, -1, x.1, ans0⟩ : Cl)]).getD C.length default = ⟨((i % 3 : Nat) : Int), k, -1, x.1, ans0⟩ := by simp [List.getD_eq_getElem?_getD]
      rw [rstep, if_neg (by simp only; omega), if_neg (by simp)]
      simp only [e1, e2, e3]
      rw [if_neg (by simp; omega)]
      simp [idel]
    have ih := rrun_seq (i + 1) (k + 1 + 1) (C ++ [⟨((i % 3 : Nat) : Int), k, ((k + 1 : Nat) : Int), x.1, x.2⟩]) r (by omega) fun y hy => h y (by simp [hy])
    rw [seqE, rrun, h1, Option.bind_some, rrun, h2, Option.bind_some, ih, seqC, List.append_assoc, hk]
    rfl
theorem readP_seq {L : List (Opn × Ans)} (h : ∀ x ∈ L, mayOpB x.1 = true) : readP (seqE 0 L) = some (seqC 0 L) := by
  rw [readP, rrun_seq 0 0 [] L rfl h]
  rfl
theorem callsP_seq {L : List (Opn × Ans)} (h : ∀ x ∈ L, mayOpB x.1 = true) : callsP (seqE 0 L) = seqC 0 L := by rw [callsP, readP_seq h]; rfl
theorem okP_seq {L : List (Opn × Ans)} (h : ∀ x ∈ L, mayOpB x.1 = true) : okP (seqE 0 L) = true := by rw [okP, readP_seq h]; rfl
theorem solo_seq (L : List (Opn × Ans)) : SoloC (seqC 0 L) := by
  refine ⟨fun j hj => ?_, fun i j hij hj => ?_, fun j hj => ?_, fun i j hij hj => ?_⟩ <;> rw [seqC_len] at hj
  · rw [seqC_get 0 L j hj]
    simp only
    omega
  · rw [seqC_get 0 L j hj, seqC_get 0 L i (by omega)]
    simp only
    omega
  · rw [seqC_get 0 L j hj]
    simp only
    omega
  · rw [seqC_get 0 L j hj, seqC_get 0 L i (by omega)]
    simp only
    omega
/-- Each answer is what one map tells. -/
def Told (b : List Pr) (L : List (Opn × Ans)) : Prop := ∀ j, j < L.length → doA (runL b ((L.take j).map (·.1))) (L.getD j default).1 = (L.getD j default).2
theorem soS_seq (b : List Pr) (L : List (Opn × Ans)) : ∀ n, n ≤ L.length → soS b (seqC 0 L) n = (runL b ((L.take n).map (·.1)), bof (∀ j, j < n → doA (runL b ((L.take j).map (·.1))) (L.getD j default).1 = (L.getD j default).2))
  | 0, _ => by rw [soS, bof_true (fun j hj => absurd hj (by omega))]; rfl
  | n + 1, hn => by
    have ih := soS_seq b L n (by omega)
    have hg := seqC_get 0 L n (by omega)
    rw [soS, ih, hg, take_sc L default (show n < L.length by omega), List.map_append, List.map_cons, List.map_nil, runL_snoc]
    simp only [Prod.mk.injEq, true_and]
    rw [Bool.eq_iff_iff, Bool.and_eq_true, bof_iff, bof_iff, bof_iff]
    constructor
    · rintro ⟨h1, h2⟩ j hj
      by_cases e : j = n
      · rw [e]; exact h2
      · exact h1 j (by omega)
    · exact fun h => ⟨fun j hj => h j (by omega), h n (by omega)⟩
theorem right_seq {b : List Pr} {L : List (Opn × Ans)} (hb : Rises b) (hm : ∀ x ∈ L, mayOpB x.1 = true) (he : ∀ x ∈ L, x.2.err = 0) (l : List Int) : (rightO b (seqE 0 L) l).isSome = true ↔ l = allI L.length ∧ Told b L := by
  have hC := callsP_seq hm
  have S : SoloC (callsP (seqE 0 L)) := by rw [hC]; exact solo_seq L
  have he' : ∀ j, j < (callsP (seqE 0 L)).length → ((callsP (seqE 0 L)).getD j default).ans.err = 0 := fun j hj => by
    rw [hC] at hj ⊢
    rw [seqC_len] at hj
    rw [seqC_get 0 L j hj]
    exact he _ (getD_mem' L default hj)
  have hall := solo_all (bof_true hb) (okP_seq hm) S he'
  rw [hC, seqC_len, soS_seq b L _ (Nat.le_refl _)] at hall
  simp only [List.take_length] at hall
  constructor
  · intro hr
    have hl := solo_one S he' hr
    rw [hC, seqC_len] at hl
    refine ⟨hl, ?_⟩
    rw [hl, hall] at hr
    split at hr
    · rename_i h
      exact bof_iff.1 h
    · cases hr
  · rintro ⟨rfl, ht⟩
    rw [hall, if_pos (bof_true (show ∀ j, j < L.length → doA (runL b ((L.take j).map (·.1))) (L.getD j default).1 = (L.getD j default).2 from ht))]
    rfl
noncomputable def toldL (b : List Pr) (ops : List Opn) : List (Opn × Ans) := ops.zip (runA b ops)
theorem toldL_len (b : List Pr) (ops : List Opn) : (toldL b ops).length = ops.length := by rw [toldL, List.length_zip, runA_len, Nat.min_self]
theorem toldL_snoc (b : List Pr) (ops : List Opn) (op : Opn) : toldL b (ops ++ [op]) = toldL b ops ++ [(op, doA (runL b ops) op)] := by
  rw [toldL, runA_snoc, List.zip_append (by rw [runA_len]), toldL]
  rfl
theorem toldL_take (b : List Pr) (ops : List Opn) {i : Nat} (hi : i < ops.length) : toldL b (ops.take (i + 1)) = toldL b (ops.take i) ++ [(ops.getD i default, doA (runL b (ops.take i)) (ops.getD i default))] := by
  rw [take_sc ops default hi, toldL_snoc]
theorem toldL_fst (b : List Pr) (ops : List Opn) : (toldL b ops).map (·.1) = ops := by
  rw [toldL, List.map_fst_zip (by rw [runA_len]; exact Nat.le_refl _)]
theorem runA_take (b : List Pr) (ops : List Opn) (j : Nat) (hj : j < ops.length) : (runA b ops).getD j default = doA (runL b (ops.take j)) (ops.getD j default) := by
  induction ops generalizing b j with
  | nil => simp at hj
  | cons op r ih =>
    cases j with
    | zero => rfl
    | succ j =>
      have := ih (doL b op) j (by simpa using hj)
      rw [runA, List.getD_cons_succ, this]
      rfl
theorem toldL_get (b : List Pr) (ops : List Opn) (j : Nat) (hj : j < ops.length) : (toldL b ops).getD j default = (ops.getD j default, doA (runL b (ops.take j)) (ops.getD j default)) := by
  have h2 := runA_take b ops j hj
  have hr : j < (runA b ops).length := by rw [runA_len]; exact hj
  rw [← h2, toldL]
  have hz : (ops.zip (runA b ops))[j]? = some (ops[j], (runA b ops)[j]) := by
    rw [List.getElem?_eq_getElem (by rw [List.length_zip]; omega), List.getElem_zip]
  rw [List.getD_eq_getElem?_getD, hz, List.getD_eq_getElem?_getD, List.getElem?_eq_getElem hj, List.getD_eq_getElem?_getD, List.getElem?_eq_getElem hr]
  rfl
theorem toldL_told (b : List Pr) (ops : List Opn) : Told b (toldL b ops) := fun j hj => by
  rw [toldL_len] at hj
  rw [toldL_get b ops j hj, List.map_take, toldL_fst]
theorem runL_asc {b : List Pr} (hb : Asc b) : ∀ ops : List Opn, Asc (runL b ops) := by
  intro ops
  induction ops generalizing b with
  | nil => exact hb
  | cons op r ih => exact ih (doL_asc op hb)
/-- One answer turned: it is no longer what one map tells. -/
theorem told_turned {b : List Pr} {ops : List Opn} {k : Nat} (hk : k < ops.length) {a : Ans} (hne : a ≠ doA (runL b (ops.take k)) (ops.getD k default)) : ¬ Told b ((toldL b ops).set k (ops.getD k default, a)) := by
  intro ht
  have hl : k < (toldL b ops).length := by rw [toldL_len]; exact hk
  have h := ht k (by rw [List.length_set]; exact hl)
  have h1 : ((toldL b ops).set k (ops.getD k default, a)).getD k default = (ops.getD k default, a) := by simp [List.getD_eq_getElem?_getD, hl]
  have h2 : ((toldL b ops).set k (ops.getD k default, a)).take k = (toldL b ops).take k := by rw [List.take_set_of_le (Nat.le_refl _)]
  rw [h1, h2, List.map_take, toldL_fst] at h
  exact hne h.symm
theorem seqE_set : ∀ (i : Nat) (L : List (Opn × Ans)) (k : Nat) (x : Opn × Ans), k < L.length → (L.getD k default).1 = x.1 → seqE i (L.set k x) = (seqE i L).set (2 * k + 1) ⟨(((i + k) % 3 : Nat) : Int), true, x.1, x.2⟩
  | _, [], k, _, h, _ => by simp at h
  | i, y :: r, 0, x, _, h => by
    simp only [List.getD_cons_zero] at h
    simp [seqE, h]
  | i, y :: r, k + 1, x, hk, h => by
    have := seqE_set (i + 1) r k x (by simpa using hk) (by simpa using h)
    rw [List.set_cons_succ, seqE, this, seqE, show 2 * (k + 1) + 1 = (2 * k + 1) + 1 + 1 by omega, List.set_cons_succ, List.set_cons_succ, show i + 1 + k = i + (k + 1) by omega]
end Go.X
set_option linter.unusedVariables false
set_option linter.unusedSimpArgs false
set_option maxRecDepth 100000
namespace Go.X
open Go.Proofs.Tryd (prog)

structure EvB (B M : Mem) (x : Lf) (L : List Evt) : Prop where
  le : B.le M
  own : (L = [] ∧ x = .nils) ∨ ∃ id rows keep, B id = none ∧ M id = some (.cells 36 rows keep) ∧ keep ≤ rows.length ∧ rows.map (fun r => r.map wkL) = L.map Evt.row ∧ x = .ms id 0 L.length
theorem EvB.grow {B M N : Mem} {x : Lf} {L : List Evt} (I : EvB B M x L) (hle : M.le N) : EvB B N x L := by
  refine ⟨fun k bk hk => hle _ _ (I.le _ _ hk), ?_⟩
  rcases I.own with h | ⟨id, rows, keep, a1, a2, a3⟩
  · exact .inl h
  · exact .inr ⟨id, rows, keep, a1, hle _ _ a2, a3⟩
theorem EvB.len {L : List Evt} {rows : List (List Lf)} (h : rows.map (fun r => r.map wkL) = L.map Evt.row) : rows.length = L.length := by
  have := congrArg List.length h
  simpa using this
theorem EvB.rd {B M : Mem} {x : Lf} {L : List Evt} (I : EvB B M x L) : ∃ M', GStep M M' ∧ EvB B M' x L ∧ Rd M' x (L.map Evt.row) ∧ (∀ id n, x = .ms id 0 n → M' id = some (.cells 36 (L.map Evt.row) L.length)) := by
  rcases I.own with ⟨rfl, rfl⟩ | ⟨id, rows, keep, a1, a2, a3, a4, rfl⟩
  · exact ⟨M, GStep.le (Mem.le_refl _), I, Rd.nils _, fun id n h => by cases h⟩
  · have hlen := EvB.len a4
    have h1 := GStep.wk a2
    rw [a4] at h1
    have h2 := GStep.frz (Mem.set_eq M id (.cells 36 (L.map Evt.row) keep))
    rw [Mem.set_set, show max keep (L.map Evt.row).length = L.length by rw [List.length_map]; omega] at h2
    refine ⟨_, h1.trans h2, ⟨fun k bk hk => ?_, .inr ⟨id, L.map Evt.row, L.length, a1, Mem.set_eq _ _ _, by simp, evts_wk' L, rfl⟩⟩, Rd.ms (Mem.set_eq _ _ _) (by simp) (by simp), fun id' n e => ?_⟩
    · rw [Mem.set_ne _ _ _ _ (fun e => by rw [← e, a1] at hk; cases hk)]
      exact I.le _ _ hk
    · cases e
      exact Mem.set_eq _ _ _
theorem app_evs {B N : Mem} {x : Lf} {L : List Evt} (I : EvB B N x L) {pb : Nat} (hb : ∀ j, pb ≤ j → N j = none) (rs : List (List Lf)) (es : List Evt) (hr : rs.map (fun r => r.map wkL) = es.map Evt.row) (hne : es ≠ []) (hl : L.length + es.length ≤ 1000) {n : Nat} (hn : n = es.length) {K : AV → Mem → Prop}
    (hk : ∀ x' N', EvB B N' x' (L ++ es) → K (.l x') N') :
    @appI Go.Proofs.Tryd.prog (N.set pb (.cells 36 rs 0)) 23 23 (.l x) (.l (.ms pb 0 n)) ⟨K⟩ := by
  have hrl := EvB.len hr
  subst hn
  have hb2 : ∀ {j : Nat}, (∀ k, j ≤ k → (N.set pb (.cells 36 rs 0)) k = none) → pb < j ∧ ∀ k, j ≤ k → N k = none := fun h => bnd_new h
  have hsrc : ∀ te : TI, srcRows Go.Proofs.Tryd.prog (N.set pb (.cells 36 rs 0)) 23 23 36 te (.l (.ms pb 0 es.length)) = some rs := fun te => by
    unfold srcRows
    rw [if_pos rfl]
    simp only [Mem.set_eq]
    rw [if_pos ⟨trivial, by omega⟩, List.drop_zero, List.take_of_length_le (by omega)]
  have hne' : rs ≠ [] := fun e => hne (List.length_eq_zero_iff.1 (by rw [← hrl, e]; rfl))
  rcases I.own with ⟨rfl, rfl⟩ | ⟨id, rows, keep, a1, a2, a3, a4, rfl⟩
  · refine app_nils _ _ _ _ 36 _ _ ti_23 rfl ti_36 (by kernel_rfl) (by decide) _ rs (hsrc _) ?_ ?_ (fun e => absurd e hne') (fun _ id hid => ?_)
    · exact Nat.le_trans (Nat.mul_le_mul_right _ (show rs.length ≤ 1000 by omega)) (by decide)
    · omega
    · obtain ⟨h1, h2⟩ := hb2 hid
      rw [hrl]
      refine hk _ _ ⟨fun k bk hk' => ?_, .inr ⟨id, rs, 0, ?_, Mem.set_eq _ _ _, Nat.zero_le _, by rw [hr]; rfl, rfl⟩⟩
      · have h3 := I.le _ _ hk'
        have := lt_of_bnd hb h3
        rw [Mem.set_ne _ _ _ _ (by omega), Mem.set_ne _ _ _ _ (by omega)]
        exact h3
      · cases hB : B id with
        | none => rfl
        | some bk => have := h2 id (Nat.le_refl _); rw [I.le _ _ hB] at this; cases this
  · have hlen := EvB.len a4
    have hpi := lt_of_bnd hb a2
    refine app_ms _ _ _ _ 36 _ _ ti_23 rfl ti_36 (by kernel_rfl) (by decide) id L.length _ (rows := rows) (keep := keep) rs (by rw [Mem.set_ne _ _ _ _ (by omega)]; exact a2) (hsrc _) (by omega) (by omega) ?_ ?_ (fun id' hid => ?_)
    · exact Nat.le_trans (Nat.mul_le_mul_right _ (show L.length + rs.length ≤ 1000 by omega)) (by decide)
    · omega
    · obtain ⟨h1, h2⟩ := hb2 hid
      rw [hrl, List.take_of_length_le (by omega), show L.length + es.length = (L ++ es).length by simp]
      refine hk _ _ ⟨fun k bk hk' => ?_, .inr ⟨id', rows ++ rs, keep, ?_, Mem.set_eq _ _ _, by rw [List.length_append]; omega, by rw [List.map_append, a4, hr, List.map_append], rfl⟩⟩
      · have h3 := I.le _ _ hk'
        have := lt_of_bnd hb h3
        rw [Mem.set_ne _ _ _ _ (by omega), Mem.del_ne _ _ _ (fun e => by rw [← e, a1] at hk'; cases hk'), Mem.set_ne _ _ _ _ (by omega)]
        exact h3
      · cases hB : B id' with
        | none => rfl
        | some bk => have := h2 id' (Nat.le_refl _); rw [I.le _ _ hB] at this; cases this
end Go.X
set_option linter.unusedVariables false
set_option linter.unusedSimpArgs false
set_option maxHeartbeats 20000000
set_option maxRecDepth 100000
namespace Go.X
open Go.Proofs.Tryd (prog)

theorem doA_errN {l : List Pr} {op : Opn} (hl : Asc l) (hm : mayOpB op = true) : (doA l op).err = 0 := by
  have hk : okOp l op = true := by rw [okOp, hm, bof_true ((rises_asc l).2 hl)]; rfl
  rw [doA, if_neg (by simp [hk])]
  split
  · rfl
  · split
    · rfl
    · split
      · split <;> rfl
      · split
        · split <;> rfl
        · rw [ansAt]; split <;> rfl
theorem small_nil : Small [] := ⟨by decide, fun x hx => by cases hx⟩
theorem rowsP' (l : List Pr) : ∀ r ∈ l.map Pr.row, r.length = 2 := by
  intro r hr
  obtain ⟨p, _, rfl⟩ := List.mem_map.1 hr
  rfl
theorem seq_small {b : List Pr} {L : List (Opn × Ans)} (hl : L.length ≤ 100) (hp : ∀ x ∈ L, x.2.pairs.length ≤ 1000) : ∀ i, Small (seqE i L) := by
  induction L with
  | nil => exact fun _ => small_nil
  | cons x r ih =>
    intro i
    have ih' := ih (by simp at hl; omega) (fun y hy => hp y (by simp [hy])) (i + 1)
    refine ⟨by rw [seqE_len]; omega, fun y hy => ?_⟩
    rw [seqE] at hy
    rcases List.mem_cons.1 hy with rfl | hy
    · exact Nat.zero_le _
    rcases List.mem_cons.1 hy with rfl | hy
    · have := hp x (by simp)
      show x.2.pairs.length ≤ _
      omega
    · exact ih'.2 y hy
theorem seqE_mem {P : Evt → Prop} : ∀ {i : Nat} {L : List (Opn × Ans)}, (∀ x ∈ L, ∀ t : Int, P ⟨t, false, x.1, ans0⟩ ∧ P ⟨t, true, x.1, x.2⟩) → ∀ e ∈ seqE i L, P e
  | _, [], _, e, he => by cases he
  | i, x :: r, h, e, he => by
    rw [seqE] at he
    rcases List.mem_cons.1 he with rfl | he
    · exact (h x (by simp) _).1
    rcases List.mem_cons.1 he with rfl | he
    · exact (h x (by simp) _).2
    · exact seqE_mem (fun y hy => h y (by simp [hy])) e he
theorem toldL_mem {b : List Pr} {ops : List Opn} {x : Opn × Ans} (hx : x ∈ toldL b ops) : ∃ j, j < ops.length ∧ x = (ops.getD j default, doA (runL b (ops.take j)) (ops.getD j default)) := by
  obtain ⟨j, hj, rfl⟩ := List.getElem_of_mem hx
  have hj' : j < ops.length := by rwa [toldL_len] at hj
  refine ⟨j, hj', ?_⟩
  rw [← toldL_get b ops j hj', List.getD_eq_getElem?_getD, List.getElem?_eq_getElem hj]
  rfl
theorem told_ok {b : List Pr} {ops : List Opn} (hb : Asc b) (hbl : b.length ≤ 30) (hl : ops.length ≤ 24) (hm : ∀ o ∈ ops, mayOpB o = true) :
    (∀ x ∈ toldL b ops, mayOpB x.1 = true) ∧ (∀ x ∈ toldL b ops, x.2.err = 0) ∧ (∀ x ∈ toldL b ops, x.2.pairs.length ≤ 54) := by
  refine ⟨fun x hx => ?_, fun x hx => ?_, fun x hx => ?_⟩ <;> obtain ⟨j, hj, rfl⟩ := toldL_mem hx
  · exact hm _ (getD_mem' ops default hj)
  · exact doA_errN (runL_asc hb _) (hm _ (getD_mem' ops default hj))
  · have h1 := doA_lenO (runL b (ops.take j)) (ops.getD j default)
    have h2 := runL_len b (ops.take j)
    rw [List.length_take] at h2
    show (doA (runL b (ops.take j)) (ops.getD j default)).pairs.length ≤ 54
    omega
end Go.X
set_option linter.unusedVariables false
set_option linter.unusedSimpArgs false
set_option maxHeartbeats 20000000
set_option maxRecDepth 100000
namespace Go.X
open Go.Proofs.Tryd (prog)

theorem xor_ne {x y : Int} (hy : IntOk' y) (h0 : y ≠ 0) : bitsA .xor .i64 x y ≠ x := by
  intro h
  have key : ∀ z : Int, BitVec.ofInt 64 (IntKind.i64.wrap z) = BitVec.ofInt 64 z := fun z => by
    apply BitVec.eq_of_toNat_eq
    rw [BitVec.toNat_ofInt, BitVec.toNat_ofInt, IntKind.wrap_i64]
    congr 1
    omega
  have h1 := congrArg (BitVec.ofInt 64) h
  rw [bitsA, key] at h1
  have h2 : BitVec.ofInt 64 (((BitVec.ofInt IntKind.i64.bits x ^^^ BitVec.ofInt IntKind.i64.bits y).toNat : Nat) : Int) = BitVec.ofInt 64 x ^^^ BitVec.ofInt 64 y := by
    apply BitVec.eq_of_toNat_eq
    rw [BitVec.toNat_ofInt]
    have := (BitVec.ofInt 64 x ^^^ BitVec.ofInt 64 y).isLt
    show (((BitVec.ofInt 64 x ^^^ BitVec.ofInt 64 y).toNat : Int) % ((2 ^ 64 : Nat) : Int)).toNat = _
    omega
  rw [h2] at h1
  have h3 : BitVec.ofInt 64 y = 0#64 := by
    have h4 := congrArg (fun v => BitVec.ofInt 64 x ^^^ v) h1
    simp only [← BitVec.xor_assoc, BitVec.xor_self, BitVec.zero_xor] at h4
    exact h4
  have h5 := congrArg BitVec.toNat h3
  rw [BitVec.toNat_ofInt] at h5
  have h6 : (y % ((2 ^ 64 : Nat) : Int)).toNat = 0 := h5
  obtain ⟨a, b⟩ := hy
  omega
theorem seqE_get : ∀ (i : Nat) (L : List (Opn × Ans)) (k : Nat), k < L.length → (seqE i L).getD (2 * k + 1) default = ⟨(((i + k) % 3 : Nat) : Int), true, (L.getD k default).1, (L.getD k default).2⟩
  | _, [], k, h => by simp at h
  | i, x :: r, 0, _ => by simp [seqE]
  | i, x :: r, k + 1, h => by
    have := seqE_get (i + 1) r k (by simpa using h)
    rw [seqE, show 2 * (k + 1) + 1 = (2 * k + 1) + 1 + 1 by omega, List.getD_cons_succ, List.getD_cons_succ, this, List.getD_cons_succ, show i + 1 + k = i + (k + 1) by omega]
theorem mem_set' {α : Type} {l : List α} {k : Nat} {x y : α} (h : y ∈ l.set k x) : y ∈ l ∨ y = x := List.mem_or_eq_of_mem_set h
theorem turned_any {b : List Pr} {ops : List Opn} {k : Nat} {a : Ans} (hR : Rises b) (hbl : b.length ≤ 20) (hol : ops.length ≤ 8) (hmo : ∀ o ∈ ops, mayOpB o = true) (hbi : ∀ p ∈ b, IntOk' p.key ∧ IntOk' p.val) (hoi : ∀ o ∈ ops, IntOk' o.key ∧ IntOk' o.val) (hk : k < ops.length)
    (hne : a ≠ ((toldL b ops).getD k default).2) (he : a.err = ((toldL b ops).getD k default).2.err) (hp : a.pairs = ((toldL b ops).getD k default).2.pairs) (X : Mem) :
    XCalls Go.Proofs.Tryd.prog 10 [.l (.sl (b.map Pr.row)), .l (.sl ((seqE 0 ((toldL b ops).set k (((toldL b ops).getD k default).1, a))).map Evt.row))] X fun x X' => x = .l (.bool false) ∧ X' = X := by
  have hasc := (rises_asc b).1 hR
  obtain ⟨h1', h2', h3'⟩ := told_ok (b := b) (ops := ops) hasc (by omega) (by omega) hmo
  have hLl := toldL_len b ops
  have hkm : (toldL b ops).getD k default ∈ toldL b ops := getD_mem' _ default (by rw [hLl]; exact hk)
  have hg := toldL_get b ops k hk
  have hnt : ¬ Told b ((toldL b ops).set k (((toldL b ops).getD k default).1, a)) := by
    rw [hg] at hne ⊢
    exact told_turned hk hne
  have hints : ∀ x ∈ toldL b ops, IntOk' x.1.key ∧ IntOk' x.1.val := fun x hx => by
    obtain ⟨j, hj, rfl⟩ := toldL_mem hx
    exact hoi _ (getD_mem' ops default hj)
  generalize (toldL b ops).getD k default = oa at hkm hne he hp hnt
  have q1 : ∀ x ∈ (toldL b ops).set k (oa.1, a), mayOpB x.1 = true := fun x hx => by
    rcases mem_set' hx with h | rfl
    · exact h1' x h
    · exact h1' oa hkm
  have q2 : ∀ x ∈ (toldL b ops).set k (oa.1, a), x.2.err = 0 := fun x hx => by
    rcases mem_set' hx with h | rfl
    · exact h2' x h
    · exact he.trans (h2' _ hkm)
  have q3 : ∀ x ∈ (toldL b ops).set k (oa.1, a), x.2.pairs.length ≤ 1000 := fun x hx => by
    rcases mem_set' hx with h | rfl
    · have := h3' x h; omega
    · have := h3' _ hkm
      show a.pairs.length ≤ 1000
      rw [hp]
      omega
  have q4 : ∀ x ∈ (toldL b ops).set k (oa.1, a), IntOk' x.1.key ∧ IntOk' x.1.val := fun x hx => by
    rcases mem_set' hx with h | rfl
    · exact hints x h
    · exact hints oa hkm
  have hsm := seq_small (b := b) (L := (toldL b ops).set k (oa.1, a)) (by rw [List.length_set, hLl]; omega) q3 0
  have hoo : OpsOk (callsP (seqE 0 ((toldL b ops).set k (oa.1, a)))) := ops_ok (seqE_mem (P := fun e => IntOk' e.op.key ∧ IntOk' e.op.val) fun x hx t => ⟨q4 x hx, q4 x hx⟩)
  refine (lany_spec b _ (by omega) hbi hsm hoo X).mono ?_
  rintro x X' ⟨hx, l, ok, e, hF, rfl⟩
  refine ⟨?_, hx⟩
  cases ok with
  | false => rfl
  | true =>
    have := (found_right hF).1
    exact absurd ((right_seq hR q1 q2 l).1 this).2 hnt
theorem app_copy {N : Mem} {idz idh n keep : Nat} {R : List (List Lf)} (hz : ∀ j, idz ≤ j → N j = none) (hM : N idh = some (.cells 36 R keep)) (hn : R.length = n) (hl : n ≤ 1000) {K : AV → Mem → Prop}
    (hk : ∀ id' N', (∀ j, id' ≤ j → N j = none) → N' id' = some (.cells 36 R 0) → N.le N' → K (.l (.ms id' 0 n)) N') :
    @appI Go.Proofs.Tryd.prog (N.set idz (.cells 36 [] 0)) 23 23 (.l (.ms idz 0 0)) (.l (.ms idh 0 n)) ⟨K⟩ := by
  have kz := lt_of_bnd hz hM
  refine app_ms _ _ _ _ 36 _ _ ti_23 rfl ti_36 (by kernel_rfl) (by decide) idz 0 _ (rows := []) (keep := 0) R (Mem.set_eq _ _ _) ?_ (Nat.le_refl _) (Nat.zero_le _) ?_ ?_ (fun id' hid => ?_)
  · have hq : (N.set idz (.cells 36 [] 0)) idh = some (.cells 36 R keep) := by rw [Mem.set_ne _ _ _ _ (by omega)]; exact hM
    unfold srcRows
    rw [if_pos rfl]
    simp only [hq]
    rw [if_pos ⟨trivial, by omega⟩, List.drop_zero, List.take_of_length_le (by omega)]
  · exact Nat.le_trans (Nat.mul_le_mul_right _ (show 0 + R.length ≤ 1000 by omega)) (by decide)
  · omega
  · obtain ⟨h1, h2⟩ := bnd_new hid
    rw [List.take_zero, List.nil_append, Nat.zero_add, hn]
    refine hk id' _ h2 (Mem.set_eq _ _ _) fun k bk hk' => ?_
    have := lt_of_bnd hz hk'
    have := lt_of_bnd h2 hk'
    rw [Mem.set_ne _ _ _ _ (by omega), Mem.del_ne _ _ _ (by omega), Mem.set_ne _ _ _ _ (by omega)]
    exact hk'
theorem linWrong_walk (b : List Pr) (ops : List Opn) (k0 by0 : Int) (hb : b.length ≤ 8796093022200) (hbi : ∀ p ∈ b, IntOk' p.key ∧ IntOk' p.val) (hol : ops.length ≤ 140737488355328) (hoi : ∀ o ∈ ops, IntOk' o.key ∧ IntOk' o.val) (hby : IntOk' by0) (M : Mem) :
    XCalls Go.Proofs.Tryd.prog 5 [.l (.sl (b.map Pr.row)), .l (.sl (ops.map Opn.row)), .l (.int .i64 k0), .l (.int .i64 by0)] M fun r M' => r = .l (.bool true) ∧ M' = M := by
  refine xcalls_intro (rs := [.tmp 8]) Go.Proofs.Tryd.func5 rfl (by kernel_rfl) rfl rfl (by kernel_rfl) (by simp) ?_
  simp -implicitDefEqProofs (maxSteps := 1000000) (disch := omega) only [↓xsP, ↓vc_seq, xsQ, xsT, xsR, xsD, ↓reduceIte, reduceCtorEq, eq_self, ne_eq, imp_self, forall_const, Nat.reduceEqDiff, Nat.reduceAdd, Nat.reduceSub, Nat.reduceMul, Nat.reduceLT, Nat.reduceLeDiff, Nat.reduceBEq, Nat.reduceDiv, Nat.reduceMod, Int.reduceToNat, Int.reduceNeg, Int.reduceAdd, Int.reduceSub, Int.reduceMul, Int.reduceEq, Int.reduceNe, Int.reduceLT, Int.reduceLE, Int.reduceGT, Int.reduceGE]
  have hend : ∀ {K : AV → Mem → Prop}, (K (.l (.bool true)) M) → @callI Go.Proofs.Tryd.prog 11 [] M ⟨K⟩ := fun h => call_of (awake20_spec _) h
  by_cases h1 : b.length ≤ 20
  rotate_left
  · have q1 : decide ((b.length : Int) > 20) = true := decide_eq_true (by omega)
    simp -implicitDefEqProofs (maxSteps := 1000000) (disch := omega) only [↓xsP, ↓vc_seq, xsQ, xsT, xsR, xsD, ↓reduceIte, reduceCtorEq, eq_self, ne_eq, imp_self, forall_const, Nat.reduceEqDiff, Nat.reduceAdd, Nat.reduceSub, Nat.reduceMul, Nat.reduceLT, Nat.reduceLeDiff, Nat.reduceBEq, Nat.reduceDiv, Nat.reduceMod, Int.reduceToNat, Int.reduceNeg, Int.reduceAdd, Int.reduceSub, Int.reduceMul, Int.reduceEq, Int.reduceNe, Int.reduceLT, Int.reduceLE, Int.reduceGT, Int.reduceGE, q1]
    refine hend ?_
    simp -implicitDefEqProofs (maxSteps := 1000000) (disch := omega) only [↓xsP, ↓vc_seq, xsQ, xsT, xsR, xsD, ↓reduceIte, reduceCtorEq, eq_self, ne_eq, imp_self, forall_const, Nat.reduceEqDiff, Nat.reduceAdd, Nat.reduceSub, Nat.reduceMul, Nat.reduceLT, Nat.reduceLeDiff, Nat.reduceBEq, Nat.reduceDiv, Nat.reduceMod, Int.reduceToNat, Int.reduceNeg, Int.reduceAdd, Int.reduceSub, Int.reduceMul, Int.reduceEq, Int.reduceNe, Int.reduceLT, Int.reduceLE, Int.reduceGT, Int.reduceGE]
    exact fin_ok (Mem.le_refl _) ⟨rfl, rfl⟩
  have q1 : decide ((b.length : Int) > 20) = false := decide_eq_false (by omega)
  simp -implicitDefEqProofs (maxSteps := 1000000) (disch := omega) only [↓xsP, ↓vc_seq, xsQ, xsT, xsR, xsD, ↓reduceIte, reduceCtorEq, eq_self, ne_eq, imp_self, forall_const, Nat.reduceEqDiff, Nat.reduceAdd, Nat.reduceSub, Nat.reduceMul, Nat.reduceLT, Nat.reduceLeDiff, Nat.reduceBEq, Nat.reduceDiv, Nat.reduceMod, Int.reduceToNat, Int.reduceNeg, Int.reduceAdd, Int.reduceSub, Int.reduceMul, Int.reduceEq, Int.reduceNe, Int.reduceLT, Int.reduceLE, Int.reduceGT, Int.reduceGE, q1]
  refine call_of (mayPairs_spec b (by omega) _) ?_
  by_cases hR : Rises b
  rotate_left
  · rw [bof_false hR]
    simp -implicitDefEqProofs (maxSteps := 1000000) (disch := omega) only [↓xsP, ↓vc_seq, xsQ, xsT, xsR, xsD, ↓reduceIte, reduceCtorEq, eq_self, ne_eq, imp_self, forall_const, Nat.reduceEqDiff, Nat.reduceAdd, Nat.reduceSub, Nat.reduceMul, Nat.reduceLT, Nat.reduceLeDiff, Nat.reduceBEq, Nat.reduceDiv, Nat.reduceMod, Int.reduceToNat, Int.reduceNeg, Int.reduceAdd, Int.reduceSub, Int.reduceMul, Int.reduceEq, Int.reduceNe, Int.reduceLT, Int.reduceLE, Int.reduceGT, Int.reduceGE, q1]
    refine hend ?_
    simp -implicitDefEqProofs (maxSteps := 1000000) (disch := omega) only [↓xsP, ↓vc_seq, xsQ, xsT, xsR, xsD, ↓reduceIte, reduceCtorEq, eq_self, ne_eq, imp_self, forall_const, Nat.reduceEqDiff, Nat.reduceAdd, Nat.reduceSub, Nat.reduceMul, Nat.reduceLT, Nat.reduceLeDiff, Nat.reduceBEq, Nat.reduceDiv, Nat.reduceMod, Int.reduceToNat, Int.reduceNeg, Int.reduceAdd, Int.reduceSub, Int.reduceMul, Int.reduceEq, Int.reduceNe, Int.reduceLT, Int.reduceLE, Int.reduceGT, Int.reduceGE]
    exact fin_ok (Mem.le_refl _) ⟨rfl, rfl⟩
  have hasc := (rises_asc b).1 hR
  rw [bof_true hR]
  simp -implicitDefEqProofs (maxSteps := 1000000) (disch := omega) only [↓xsP, ↓vc_seq, xsQ, xsT, xsR, xsD, ↓reduceIte, reduceCtorEq, eq_self, ne_eq, imp_self, forall_const, Nat.reduceEqDiff, Nat.reduceAdd, Nat.reduceSub, Nat.reduceMul, Nat.reduceLT, Nat.reduceLeDiff, Nat.reduceBEq, Nat.reduceDiv, Nat.reduceMod, Int.reduceToNat, Int.reduceNeg, Int.reduceAdd, Int.reduceSub, Int.reduceMul, Int.reduceEq, Int.reduceNe, Int.reduceLT, Int.reduceLE, Int.reduceGT, Int.reduceGE, q1]
  by_cases h2 : 1 ≤ ops.length
  rotate_left
  · have q2 : decide ((ops.length : Int) < 1) = true := decide_eq_true (by omega)
    simp -implicitDefEqProofs (maxSteps := 1000000) (disch := omega) only [↓xsP, ↓vc_seq, xsQ, xsT, xsR, xsD, ↓reduceIte, reduceCtorEq, eq_self, ne_eq, imp_self, forall_const, Nat.reduceEqDiff, Nat.reduceAdd, Nat.reduceSub, Nat.reduceMul, Nat.reduceLT, Nat.reduceLeDiff, Nat.reduceBEq, Nat.reduceDiv, Nat.reduceMod, Int.reduceToNat, Int.reduceNeg, Int.reduceAdd, Int.reduceSub, Int.reduceMul, Int.reduceEq, Int.reduceNe, Int.reduceLT, Int.reduceLE, Int.reduceGT, Int.reduceGE, q1, q2]
    refine hend ?_
    simp -implicitDefEqProofs (maxSteps := 1000000) (disch := omega) only [↓xsP, ↓vc_seq, xsQ, xsT, xsR, xsD, ↓reduceIte, reduceCtorEq, eq_self, ne_eq, imp_self, forall_const, Nat.reduceEqDiff, Nat.reduceAdd, Nat.reduceSub, Nat.reduceMul, Nat.reduceLT, Nat.reduceLeDiff, Nat.reduceBEq, Nat.reduceDiv, Nat.reduceMod, Int.reduceToNat, Int.reduceNeg, Int.reduceAdd, Int.reduceSub, Int.reduceMul, Int.reduceEq, Int.reduceNe, Int.reduceLT, Int.reduceLE, Int.reduceGT, Int.reduceGE]
    exact fin_ok (Mem.le_refl _) ⟨rfl, rfl⟩
  have q2 : decide ((ops.length : Int) < 1) = false := decide_eq_false (by omega)
  simp -implicitDefEqProofs (maxSteps := 1000000) (disch := omega) only [↓xsP, ↓vc_seq, xsQ, xsT, xsR, xsD, ↓reduceIte, reduceCtorEq, eq_self, ne_eq, imp_self, forall_const, Nat.reduceEqDiff, Nat.reduceAdd, Nat.reduceSub, Nat.reduceMul, Nat.reduceLT, Nat.reduceLeDiff, Nat.reduceBEq, Nat.reduceDiv, Nat.reduceMod, Int.reduceToNat, Int.reduceNeg, Int.reduceAdd, Int.reduceSub, Int.reduceMul, Int.reduceEq, Int.reduceNe, Int.reduceLT, Int.reduceLE, Int.reduceGT, Int.reduceGE, q1, q2]
  by_cases h3 : ops.length ≤ 8
  rotate_left
  · have q3 : decide ((ops.length : Int) > 8) = true := decide_eq_true (by omega)
    simp -implicitDefEqProofs (maxSteps := 1000000) (disch := omega) only [↓xsP, ↓vc_seq, xsQ, xsT, xsR, xsD, ↓reduceIte, reduceCtorEq, eq_self, ne_eq, imp_self, forall_const, Nat.reduceEqDiff, Nat.reduceAdd, Nat.reduceSub, Nat.reduceMul, Nat.reduceLT, Nat.reduceLeDiff, Nat.reduceBEq, Nat.reduceDiv, Nat.reduceMod, Int.reduceToNat, Int.reduceNeg, Int.reduceAdd, Int.reduceSub, Int.reduceMul, Int.reduceEq, Int.reduceNe, Int.reduceLT, Int.reduceLE, Int.reduceGT, Int.reduceGE, q1, q2, q3]
    refine hend ?_
    simp -implicitDefEqProofs (maxSteps := 1000000) (disch := omega) only [↓xsP, ↓vc_seq, xsQ, xsT, xsR, xsD, ↓reduceIte, reduceCtorEq, eq_self, ne_eq, imp_self, forall_const, Nat.reduceEqDiff, Nat.reduceAdd, Nat.reduceSub, Nat.reduceMul, Nat.reduceLT, Nat.reduceLeDiff, Nat.reduceBEq, Nat.reduceDiv, Nat.reduceMod, Int.reduceToNat, Int.reduceNeg, Int.reduceAdd, Int.reduceSub, Int.reduceMul, Int.reduceEq, Int.reduceNe, Int.reduceLT, Int.reduceLE, Int.reduceGT, Int.reduceGE]
    exact fin_ok (Mem.le_refl _) ⟨rfl, rfl⟩
  have q3 : decide ((ops.length : Int) > 8) = false := decide_eq_false (by omega)
  simp -implicitDefEqProofs (maxSteps := 1000000) (disch := omega) only [↓xsP, ↓vc_seq, xsQ, xsT, xsR, xsD, ↓reduceIte, reduceCtorEq, eq_self, ne_eq, imp_self, forall_const, Nat.reduceEqDiff, Nat.reduceAdd, Nat.reduceSub, Nat.reduceMul, Nat.reduceLT, Nat.reduceLeDiff, Nat.reduceBEq, Nat.reduceDiv, Nat.reduceMod, Int.reduceToNat, Int.reduceNeg, Int.reduceAdd, Int.reduceSub, Int.reduceMul, Int.reduceEq, Int.reduceNe, Int.reduceLT, Int.reduceLE, Int.reduceGT, Int.reduceGE, q1, q2, q3]
  by_cases h4 : by0 = 0
  · have q4 : decide (by0 = 0) = true := decide_eq_true h4
    simp -implicitDefEqProofs (maxSteps := 1000000) (disch := omega) only [↓xsP, ↓vc_seq, xsQ, xsT, xsR, xsD, ↓reduceIte, reduceCtorEq, eq_self, ne_eq, imp_self, forall_const, Nat.reduceEqDiff, Nat.reduceAdd, Nat.reduceSub, Nat.reduceMul, Nat.reduceLT, Nat.reduceLeDiff, Nat.reduceBEq, Nat.reduceDiv, Nat.reduceMod, Int.reduceToNat, Int.reduceNeg, Int.reduceAdd, Int.reduceSub, Int.reduceMul, Int.reduceEq, Int.reduceNe, Int.reduceLT, Int.reduceLE, Int.reduceGT, Int.reduceGE, q1, q2, q3, q4]
    refine hend ?_
    simp -implicitDefEqProofs (maxSteps := 1000000) (disch := omega) only [↓xsP, ↓vc_seq, xsQ, xsT, xsR, xsD, ↓reduceIte, reduceCtorEq, eq_self, ne_eq, imp_self, forall_const, Nat.reduceEqDiff, Nat.reduceAdd, Nat.reduceSub, Nat.reduceMul, Nat.reduceLT, Nat.reduceLeDiff, Nat.reduceBEq, Nat.reduceDiv, Nat.reduceMod, Int.reduceToNat, Int.reduceNeg, Int.reduceAdd, Int.reduceSub, Int.reduceMul, Int.reduceEq, Int.reduceNe, Int.reduceLT, Int.reduceLE, Int.reduceGT, Int.reduceGE]
    exact fin_ok (Mem.le_refl _) ⟨rfl, rfl⟩
  have q4 : decide (by0 = 0) = false := decide_eq_false h4
  simp -implicitDefEqProofs (maxSteps := 1000000) (disch := omega) only [↓xsP, ↓vc_seq, xsQ, xsT, xsR, xsD, ↓reduceIte, reduceCtorEq, eq_self, ne_eq, imp_self, forall_const, Nat.reduceEqDiff, Nat.reduceAdd, Nat.reduceSub, Nat.reduceMul, Nat.reduceLT, Nat.reduceLeDiff, Nat.reduceBEq, Nat.reduceDiv, Nat.reduceMod, Int.reduceToNat, Int.reduceNeg, Int.reduceAdd, Int.reduceSub, Int.reduceMul, Int.reduceEq, Int.reduceNe, Int.reduceLT, Int.reduceLE, Int.reduceGT, Int.reduceGE, q1, q2, q3, q4]
  refine newI_intro fun pb hpb => ?_
  simp -implicitDefEqProofs (maxSteps := 1000000) (disch := omega) only [↓xsP, ↓vc_seq, xsQ, xsT, xsR, xsD, ↓reduceIte, reduceCtorEq, eq_self, ne_eq, imp_self, forall_const, Nat.reduceEqDiff, Nat.reduceAdd, Nat.reduceSub, Nat.reduceMul, Nat.reduceLT, Nat.reduceLeDiff, Nat.reduceBEq, Nat.reduceDiv, Nat.reduceMod, Int.reduceToNat, Int.reduceNeg, Int.reduceAdd, Int.reduceSub, Int.reduceMul, Int.reduceEq, Int.reduceNe, Int.reduceLT, Int.reduceLE, Int.reduceGT, Int.reduceGE, q1, q2, q3, q4]
  refine app_mk2 ti_22 rfl ti_32 (by kernel_rfl) (by decide) (by decide) (rowsP' b) hpb (by simp; omega) (fun idA N hidA hNA hMN => ?_)
  simp -implicitDefEqProofs (maxSteps := 1000000) (disch := omega) only [↓xsP, ↓vc_seq, xsQ, xsT, xsR, xsD, ↓reduceIte, reduceCtorEq, eq_self, ne_eq, imp_self, forall_const, Nat.reduceEqDiff, Nat.reduceAdd, Nat.reduceSub, Nat.reduceMul, Nat.reduceLT, Nat.reduceLeDiff, Nat.reduceBEq, Nat.reduceDiv, Nat.reduceMod, Int.reduceToNat, Int.reduceNeg, Int.reduceAdd, Int.reduceSub, Int.reduceMul, Int.reduceEq, Int.reduceNe, Int.reduceLT, Int.reduceLE, Int.reduceGT, Int.reduceGE, q1, q2, q3, q4]
  obtain ⟨B, eB, hBA, hMB⟩ : ∃ B, B = N.set idA (.cells 32 (b.map Pr.row) (max 0 (b.map Pr.row).length)) ∧ B idA = some (.cells 32 (b.map Pr.row) (max 0 (b.map Pr.row).length)) ∧ M.le B := ⟨_, rfl, Mem.set_eq _ _ _, fun k bk hk => by
    have := lt_of_bnd hidA hk
    rw [Mem.set_ne _ _ _ _ (by omega)]
    exact hMN _ _ hk⟩
  refine loopI_gs (GStep.frz hNA) ?_
  rw [← eB]
  have hIs : IsK B (.ms idA 0 (b.map Pr.row).length) b := .inr ⟨idA, _, hBA, by simp, by simp⟩
  refine xloop (by kernel_rfl) (fun k fr M2 => ∃ (i : Nat) (xm xh : Lf), i ≤ ops.length ∧ k = ops.length - i ∧ fr 0 = .l (.sl (b.map Pr.row)) ∧ fr 1 = .l (.sl (ops.map Opn.row)) ∧ fr 2 = .l (.int .i64 k0) ∧ fr 3 = .l (.int .i64 by0) ∧ fr 9 = .l xm ∧ fr 10 = .l xh ∧ fr 43 = .l (.sl (ops.map Opn.row)) ∧ fr 44 = .l (.int .i64 ops.length) ∧ fr 45 = .l (.int .i64 i) ∧ IsK B xm (runL b (ops.take i)) ∧ EvB B M2 xh (seqE 0 (toldL b (ops.take i))) ∧ ∀ o ∈ ops.take i, mayOpB o = true) ops.length ?_ ?_
  · exact ⟨0, _, .nils, Nat.zero_le _, rfl, by simp -implicitDefEqProofs (maxSteps := 1000000) (disch := omega) only [↓xsP, ↓vc_seq, xsQ, xsT, xsR, xsD, ↓reduceIte, reduceCtorEq, eq_self, ne_eq, imp_self, forall_const, Nat.reduceEqDiff, Nat.reduceAdd, Nat.reduceSub, Nat.reduceMul, Nat.reduceLT, Nat.reduceLeDiff, Nat.reduceBEq, Nat.reduceDiv, Nat.reduceMod, Int.reduceToNat, Int.reduceNeg, Int.reduceAdd, Int.reduceSub, Int.reduceMul, Int.reduceEq, Int.reduceNe, Int.reduceLT, Int.reduceLE, Int.reduceGT, Int.reduceGE], by simp -implicitDefEqProofs (maxSteps := 1000000) (disch := omega) only [↓xsP, ↓vc_seq, xsQ, xsT, xsR, xsD, ↓reduceIte, reduceCtorEq, eq_self, ne_eq, imp_self, forall_const, Nat.reduceEqDiff, Nat.reduceAdd, Nat.reduceSub, Nat.reduceMul, Nat.reduceLT, Nat.reduceLeDiff, Nat.reduceBEq, Nat.reduceDiv, Nat.reduceMod, Int.reduceToNat, Int.reduceNeg, Int.reduceAdd, Int.reduceSub, Int.reduceMul, Int.reduceEq, Int.reduceNe, Int.reduceLT, Int.reduceLE, Int.reduceGT, Int.reduceGE], by simp -implicitDefEqProofs (maxSteps := 1000000) (disch := omega) only [↓xsP, ↓vc_seq, xsQ, xsT, xsR, xsD, ↓reduceIte, reduceCtorEq, eq_self, ne_eq, imp_self, forall_const, Nat.reduceEqDiff, Nat.reduceAdd, Nat.reduceSub, Nat.reduceMul, Nat.reduceLT, Nat.reduceLeDiff, Nat.reduceBEq, Nat.reduceDiv, Nat.reduceMod, Int.reduceToNat, Int.reduceNeg, Int.reduceAdd, Int.reduceSub, Int.reduceMul, Int.reduceEq, Int.reduceNe, Int.reduceLT, Int.reduceLE, Int.reduceGT, Int.reduceGE], by simp -implicitDefEqProofs (maxSteps := 1000000) (disch := omega) only [↓xsP, ↓vc_seq, xsQ, xsT, xsR, xsD, ↓reduceIte, reduceCtorEq, eq_self, ne_eq, imp_self, forall_const, Nat.reduceEqDiff, Nat.reduceAdd, Nat.reduceSub, Nat.reduceMul, Nat.reduceLT, Nat.reduceLeDiff, Nat.reduceBEq, Nat.reduceDiv, Nat.reduceMod, Int.reduceToNat, Int.reduceNeg, Int.reduceAdd, Int.reduceSub, Int.reduceMul, Int.reduceEq, Int.reduceNe, Int.reduceLT, Int.reduceLE, Int.reduceGT, Int.reduceGE], by simp -implicitDefEqProofs (maxSteps := 1000000) (disch := omega) only [↓xsP, ↓vc_seq, xsQ, xsT, xsR, xsD, ↓reduceIte, reduceCtorEq, eq_self, ne_eq, imp_self, forall_const, Nat.reduceEqDiff, Nat.reduceAdd, Nat.reduceSub, Nat.reduceMul, Nat.reduceLT, Nat.reduceLeDiff, Nat.reduceBEq, Nat.reduceDiv, Nat.reduceMod, Int.reduceToNat, Int.reduceNeg, Int.reduceAdd, Int.reduceSub, Int.reduceMul, Int.reduceEq, Int.reduceNe, Int.reduceLT, Int.reduceLE, Int.reduceGT, Int.reduceGE], by simp -implicitDefEqProofs (maxSteps := 1000000) (disch := omega) only [↓xsP, ↓vc_seq, xsQ, xsT, xsR, xsD, ↓reduceIte, reduceCtorEq, eq_self, ne_eq, imp_self, forall_const, Nat.reduceEqDiff, Nat.reduceAdd, Nat.reduceSub, Nat.reduceMul, Nat.reduceLT, Nat.reduceLeDiff, Nat.reduceBEq, Nat.reduceDiv, Nat.reduceMod, Int.reduceToNat, Int.reduceNeg, Int.reduceAdd, Int.reduceSub, Int.reduceMul, Int.reduceEq, Int.reduceNe, Int.reduceLT, Int.reduceLE, Int.reduceGT, Int.reduceGE], by simp -implicitDefEqProofs (maxSteps := 1000000) (disch := omega) only [↓xsP, ↓vc_seq, xsQ, xsT, xsR, xsD, ↓reduceIte, reduceCtorEq, eq_self, ne_eq, imp_self, forall_const, Nat.reduceEqDiff, Nat.reduceAdd, Nat.reduceSub, Nat.reduceMul, Nat.reduceLT, Nat.reduceLeDiff, Nat.reduceBEq, Nat.reduceDiv, Nat.reduceMod, Int.reduceToNat, Int.reduceNeg, Int.reduceAdd, Int.reduceSub, Int.reduceMul, Int.reduceEq, Int.reduceNe, Int.reduceLT, Int.reduceLE, Int.reduceGT, Int.reduceGE], by simp -implicitDefEqProofs (maxSteps := 1000000) (disch := omega) only [↓xsP, ↓vc_seq, xsQ, xsT, xsR, xsD, ↓reduceIte, reduceCtorEq, eq_self, ne_eq, imp_self, forall_const, Nat.reduceEqDiff, Nat.reduceAdd, Nat.reduceSub, Nat.reduceMul, Nat.reduceLT, Nat.reduceLeDiff, Nat.reduceBEq, Nat.reduceDiv, Nat.reduceMod, Int.reduceToNat, Int.reduceNeg, Int.reduceAdd, Int.reduceSub, Int.reduceMul, Int.reduceEq, Int.reduceNe, Int.reduceLT, Int.reduceLE, Int.reduceGT, Int.reduceGE], by simp -implicitDefEqProofs (maxSteps := 1000000) (disch := omega) only [↓xsP, ↓vc_seq, xsQ, xsT, xsR, xsD, ↓reduceIte, reduceCtorEq, eq_self, ne_eq, imp_self, forall_const, Nat.reduceEqDiff, Nat.reduceAdd, Nat.reduceSub, Nat.reduceMul, Nat.reduceLT, Nat.reduceLeDiff, Nat.reduceBEq, Nat.reduceDiv, Nat.reduceMod, Int.reduceToNat, Int.reduceNeg, Int.reduceAdd, Int.reduceSub, Int.reduceMul, Int.reduceEq, Int.reduceNe, Int.reduceLT, Int.reduceLE, Int.reduceGT, Int.reduceGE, Int.cast_ofNat_Int], hIs, ⟨Mem.le_refl _, .inl ⟨rfl, rfl⟩⟩, fun o ho => by rw [List.take_zero] at ho; cases ho⟩
  rintro k fr M2 ⟨i, xm, xh, hi, rfl, f0, f1, f2, f3, f9, f10, f43, f44, f45, hK, I, hmo⟩
  simp -implicitDefEqProofs (maxSteps := 1000000) (disch := omega) only [↓xsP, ↓vc_seq, xsQ, xsT, xsR, xsD, ↓reduceIte, reduceCtorEq, eq_self, ne_eq, imp_self, forall_const, Nat.reduceEqDiff, Nat.reduceAdd, Nat.reduceSub, Nat.reduceMul, Nat.reduceLT, Nat.reduceLeDiff, Nat.reduceBEq, Nat.reduceDiv, Nat.reduceMod, Int.reduceToNat, Int.reduceNeg, Int.reduceAdd, Int.reduceSub, Int.reduceMul, Int.reduceEq, Int.reduceNe, Int.reduceLT, Int.reduceLE, Int.reduceGT, Int.reduceGE, f0, f1, f2, f3, f9, f10, f43, f44, f45]
  refine condI_prop (fun hlt => ?_) (fun hlt => ?_)
  · have hin : i < ops.length := by omega
    obtain ⟨o, ho⟩ : ∃ o, ops.getD i default = o := ⟨_, rfl⟩
    have r3 : arithA .rem .i64 (i : Int) 3 = some (.int .i64 ((i % 3 : Nat) : Int)) := by
      simp only [arithA]
      rw [if_neg (by decide)]
      simp [Int.tmod]
    simp -implicitDefEqProofs (maxSteps := 1000000) (disch := omega) only [↓xsP, ↓vc_seq, xsQ, xsT, xsR, xsD, ↓reduceIte, reduceCtorEq, eq_self, ne_eq, imp_self, forall_const, Nat.reduceEqDiff, Nat.reduceAdd, Nat.reduceSub, Nat.reduceMul, Nat.reduceLT, Nat.reduceLeDiff, Nat.reduceBEq, Nat.reduceDiv, Nat.reduceMod, Int.reduceToNat, Int.reduceNeg, Int.reduceAdd, Int.reduceSub, Int.reduceMul, Int.reduceEq, Int.reduceNe, Int.reduceLT, Int.reduceLE, Int.reduceGT, Int.reduceGE, f0, f1, f2, f3, f9, f10, f43, f44, f45, ho, r3]
    refine newI_intro fun id11 hid11 => ?_
    simp -implicitDefEqProofs (maxSteps := 1000000) (disch := omega) only [↓xsP, ↓vc_seq, xsQ, xsT, xsR, xsD, ↓reduceIte, reduceCtorEq, eq_self, ne_eq, imp_self, forall_const, Nat.reduceEqDiff, Nat.reduceAdd, Nat.reduceSub, Nat.reduceMul, Nat.reduceLT, Nat.reduceLeDiff, Nat.reduceBEq, Nat.reduceDiv, Nat.reduceMod, Int.reduceToNat, Int.reduceNeg, Int.reduceAdd, Int.reduceSub, Int.reduceMul, Int.reduceEq, Int.reduceNe, Int.reduceLT, Int.reduceLE, Int.reduceGT, Int.reduceGE, f0, f1, f2, f3, f9, f10, f43, f44, f45, ho, r3]
    have hsl := runL_len b (ops.take i)
    rw [List.length_take] at hsl
    have htl : (ops.take i).length = i := by rw [List.length_take]; omega
    have htk := toldL_take b ops hin
    have hrt : runL b (ops.take (i + 1)) = doL (runL b (ops.take i)) o := by rw [take_sc ops default hin, runL_snoc, ho]
    obtain ⟨s, hs⟩ : ∃ s, runL b (ops.take i) = s := ⟨_, rfl⟩
    rw [ho, hs] at htk
    rw [hs] at hK hsl hrt
    obtain ⟨N1, eN1, h11, hMN1⟩ : ∃ N1, N1 = M2.set id11 (.cells 25 [[.int .i64 o.kind, .int .i64 o.key, .int .i64 o.to, .int .i64 o.val]] 0) ∧ N1 id11 = some (.cells 25 [[.int .i64 o.kind, .int .i64 o.key, .int .i64 o.to, .int .i64 o.val]] 0) ∧ M2.le N1 := ⟨_, rfl, Mem.set_eq _ _ _, le_new (Mem.le_refl _) hid11⟩
    rw [← eN1]
    have I1 := I.grow hMN1
    refine call_of (mayOpR_spec o _) ?_
    cases hmm : mayOpB o with
    | false =>
      simp -implicitDefEqProofs (maxSteps := 1000000) (disch := omega) only [↓xsP, ↓vc_seq, xsQ, xsT, xsR, xsD, ↓reduceIte, reduceCtorEq, eq_self, ne_eq, imp_self, forall_const, Nat.reduceEqDiff, Nat.reduceAdd, Nat.reduceSub, Nat.reduceMul, Nat.reduceLT, Nat.reduceLeDiff, Nat.reduceBEq, Nat.reduceDiv, Nat.reduceMod, Int.reduceToNat, Int.reduceNeg, Int.reduceAdd, Int.reduceSub, Int.reduceMul, Int.reduceEq, Int.reduceNe, Int.reduceLT, Int.reduceLE, Int.reduceGT, Int.reduceGE, f0, f1, f2, f3, f9, f10, f43, f44, f45]
      refine call_of (awake20_spec _) ?_
      simp -implicitDefEqProofs (maxSteps := 1000000) (disch := omega) only [↓xsP, ↓vc_seq, xsQ, xsT, xsR, xsD, ↓reduceIte, reduceCtorEq, eq_self, ne_eq, imp_self, forall_const, Nat.reduceEqDiff, Nat.reduceAdd, Nat.reduceSub, Nat.reduceMul, Nat.reduceLT, Nat.reduceLeDiff, Nat.reduceBEq, Nat.reduceDiv, Nat.reduceMod, Int.reduceToNat, Int.reduceNeg, Int.reduceAdd, Int.reduceSub, Int.reduceMul, Int.reduceEq, Int.reduceNe, Int.reduceLT, Int.reduceLE, Int.reduceGT, Int.reduceGE]
      exact fin_ok (fun k bk hk => I1.le _ _ (hMB _ _ hk)) ⟨rfl, rfl⟩
    | true =>
    simp -implicitDefEqProofs (maxSteps := 1000000) (disch := omega) only [↓xsP, ↓vc_seq, xsQ, xsT, xsR, xsD, ↓reduceIte, reduceCtorEq, eq_self, ne_eq, imp_self, forall_const, Nat.reduceEqDiff, Nat.reduceAdd, Nat.reduceSub, Nat.reduceMul, Nat.reduceLT, Nat.reduceLeDiff, Nat.reduceBEq, Nat.reduceDiv, Nat.reduceMod, Int.reduceToNat, Int.reduceNeg, Int.reduceAdd, Int.reduceSub, Int.reduceMul, Int.reduceEq, Int.reduceNe, Int.reduceLT, Int.reduceLE, Int.reduceGT, Int.reduceGE, f0, f1, f2, f3, f9, f10, f43, f44, f45, h11]
    refine callI_of ((doR_isK (hK.le I1.le) (by omega) o).mono ?_)
    rintro _ N1 ⟨rfl, rfl⟩
    have hdl := doA_lenO s o
    obtain ⟨a, ha⟩ : ∃ a, doA s o = a := ⟨_, rfl⟩
    rw [ha] at hdl htk
    simp -implicitDefEqProofs (maxSteps := 1000000) (disch := omega) only [↓xsP, ↓vc_seq, xsQ, xsT, xsR, xsD, ↓reduceIte, reduceCtorEq, eq_self, ne_eq, imp_self, forall_const, Nat.reduceEqDiff, Nat.reduceAdd, Nat.reduceSub, Nat.reduceMul, Nat.reduceLT, Nat.reduceLeDiff, Nat.reduceBEq, Nat.reduceDiv, Nat.reduceMod, Int.reduceToNat, Int.reduceNeg, Int.reduceAdd, Int.reduceSub, Int.reduceMul, Int.reduceEq, Int.reduceNe, Int.reduceLT, Int.reduceLE, Int.reduceGT, Int.reduceGE, f0, f1, f2, f3, f9, f10, f43, f44, f45, h11, ha, r3]
    refine newI_intro fun id13 hid13 => ?_
    have k13 := lt_of_bnd hid13 h11
    simp -implicitDefEqProofs (maxSteps := 1000000) (disch := omega) only [↓xsP, ↓vc_seq, xsQ, xsT, xsR, xsD, ↓reduceIte, reduceCtorEq, eq_self, ne_eq, imp_self, forall_const, Nat.reduceEqDiff, Nat.reduceAdd, Nat.reduceSub, Nat.reduceMul, Nat.reduceLT, Nat.reduceLeDiff, Nat.reduceBEq, Nat.reduceDiv, Nat.reduceMod, Int.reduceToNat, Int.reduceNeg, Int.reduceAdd, Int.reduceSub, Int.reduceMul, Int.reduceEq, Int.reduceNe, Int.reduceLT, Int.reduceLE, Int.reduceGT, Int.reduceGE, f0, f1, f2, f3, f9, f10, f43, f44, f45, h11, ha, r3]
    refine newI_intro fun ids hids => ?_
    simp -implicitDefEqProofs (maxSteps := 1000000) (disch := omega) only [↓xsP, ↓vc_seq, xsQ, xsT, xsR, xsD, ↓reduceIte, reduceCtorEq, eq_self, ne_eq, imp_self, forall_const, Nat.reduceEqDiff, Nat.reduceAdd, Nat.reduceSub, Nat.reduceMul, Nat.reduceLT, Nat.reduceLeDiff, Nat.reduceBEq, Nat.reduceDiv, Nat.reduceMod, Int.reduceToNat, Int.reduceNeg, Int.reduceAdd, Int.reduceSub, Int.reduceMul, Int.reduceEq, Int.reduceNe, Int.reduceLT, Int.reduceLE, Int.reduceGT, Int.reduceGE, f0, f1, f2, f3, f9, f10, f43, f44, f45, h11, ha, r3]
    have I2 : EvB B (N1.set id13 (.cells 34 [[.int .i64 a.err, .bool a.ok, .int .i64 a.pair.key, .int .i64 a.pair.val, .int .i64 a.n, .sl (a.pairs.map Pr.row)]] 0)) xh (seqE 0 (toldL b (ops.take i))) := I1.grow (le_new (Mem.le_refl _) hid13)
    refine app_evs I2 hids _ [⟨((i % 3 : Nat) : Int), false, o, ans0⟩, ⟨((i % 3 : Nat) : Int), true, o, a⟩] (by simp [wkL, Evt.row, ans0]) (by simp) (by rw [seqE_len, toldL_len, htl]; simp; omega) rfl fun x' N' I' => ?_
    simp -implicitDefEqProofs (maxSteps := 1000000) (disch := omega) only [↓xsP, ↓vc_seq, xsQ, xsT, xsR, xsD, ↓reduceIte, reduceCtorEq, eq_self, ne_eq, imp_self, forall_const, Nat.reduceEqDiff, Nat.reduceAdd, Nat.reduceSub, Nat.reduceMul, Nat.reduceLT, Nat.reduceLeDiff, Nat.reduceBEq, Nat.reduceDiv, Nat.reduceMod, Int.reduceToNat, Int.reduceNeg, Int.reduceAdd, Int.reduceSub, Int.reduceMul, Int.reduceEq, Int.reduceNe, Int.reduceLT, Int.reduceLE, Int.reduceGT, Int.reduceGE, f0, f1, f2, f3, f9, f10, f43, f44, f45, h11, ha, r3]
    refine ⟨ops.length - (i + 1), N', by omega, Mem.le_refl _, i + 1, _, x', by omega, rfl, rfl, rfl, by simp, ?_, ?_, fun o' ho' => ?_⟩
    · rw [hrt]
      exact IsK.sl _ _
    · rw [htk, seqE_snoc, toldL_len, htl, Nat.zero_add]
      exact I'
    · rw [take_sc ops default hin, ho] at ho'
      rcases List.mem_append.1 ho' with ho' | ho'
      · exact hmo o' ho'
      · rw [List.mem_singleton.1 ho']
        exact hmm
  · have hin : i = ops.length := by omega
    subst hin
    rw [List.take_of_length_le (Nat.le_refl _)] at hmo I
    simp -implicitDefEqProofs (maxSteps := 1000000) (disch := omega) only [↓xsP, ↓vc_seq, xsQ, xsT, xsR, xsD, ↓reduceIte, reduceCtorEq, eq_self, ne_eq, imp_self, forall_const, Nat.reduceEqDiff, Nat.reduceAdd, Nat.reduceSub, Nat.reduceMul, Nat.reduceLT, Nat.reduceLeDiff, Nat.reduceBEq, Nat.reduceDiv, Nat.reduceMod, Int.reduceToNat, Int.reduceNeg, Int.reduceAdd, Int.reduceSub, Int.reduceMul, Int.reduceEq, Int.reduceNe, Int.reduceLT, Int.reduceLE, Int.reduceGT, Int.reduceGE, f0, f1, f2, f3, f9, f10, f43, f44, f45]
    obtain ⟨h1', h2', h3'⟩ := told_ok (b := b) (ops := ops) hasc (by omega) (by omega) hmo
    have hLl := toldL_len b ops
    have htold := toldL_told b ops
    have hints : ∀ x ∈ toldL b ops, IntOk' x.1.key ∧ IntOk' x.1.val := fun x hx => by
      obtain ⟨j, hj, rfl⟩ := toldL_mem hx
      exact hoi _ (getD_mem' ops default hj)
    have hsm : Small (seqE 0 (toldL b ops)) := seq_small (b := b) (by omega) (fun x hx => by have := h3' x hx; omega) 0
    have hoo : OpsOk (callsP (seqE 0 (toldL b ops))) := ops_ok (seqE_mem (P := fun e => IntOk' e.op.key ∧ IntOk' e.op.val) fun x hx t => ⟨hints x hx, hints x hx⟩)
    have hcl : (callsP (seqE 0 (toldL b ops))).length = ops.length := by rw [callsP_seq h1', seqC_len, hLl]
    obtain ⟨M3, hG, I3, hRd, hkept⟩ := I.rd
    refine callI_gs hG (callI_of (XCalls.mono (XCalls.rd (.cons (.inl ⟨rfl, Fast.sl _⟩) (.cons (.inr ⟨_, _, rfl, rfl, hRd⟩) .nil)) (lany_spec b (seqE 0 (toldL b ops)) (by omega) hbi hsm hoo M3)) ?_))
    rintro _ M3 ⟨rfl, l, ok, e, hF, rfl⟩
    have hright := (right_seq hR h1' h2' (allI (toldL b ops).length)).2 ⟨rfl, htold⟩
    obtain rfl := found_of hF (by omega) hright
    obtain ⟨idh, hxh, hBh⟩ : ∃ idh, xh = .ms idh 0 (2 * ops.length) ∧ B idh = none := by
      rcases I3.own with ⟨h, -⟩ | ⟨id, rows, keep, a1, a2, a3, a4, a5⟩
      · have := congrArg List.length h
        rw [seqE_len, hLl] at this
        simp at this
        omega
      · exact ⟨id, by rw [a5, seqE_len, hLl], a1⟩
    have hMh := hkept idh _ hxh
    subst hxh
    have hrk := rem_u64 k0 (n := ops.length) (by omega) (by omega)
    have hk := ridx_lt k0 (n := ops.length) (by omega)
    generalize ridx k0 ops.length = k at hk hrk
    have ek : ((k : Int) * 2 + 1).toNat = 2 * k + 1 := by omega
    obtain ⟨R, hR0⟩ : ∃ R, (seqE 0 (toldL b ops)).map Evt.row = R := ⟨_, rfl⟩
    have hRl : R.length = 2 * ops.length := by rw [← hR0, List.length_map, seqE_len, hLl]
    rw [hR0] at hMh
    simp -implicitDefEqProofs (maxSteps := 1000000) (disch := omega) only [↓xsP, ↓vc_seq, xsQ, xsT, xsR, xsD, ↓reduceIte, reduceCtorEq, eq_self, ne_eq, imp_self, forall_const, Nat.reduceEqDiff, Nat.reduceAdd, Nat.reduceSub, Nat.reduceMul, Nat.reduceLT, Nat.reduceLeDiff, Nat.reduceBEq, Nat.reduceDiv, Nat.reduceMod, Int.reduceToNat, Int.reduceNeg, Int.reduceAdd, Int.reduceSub, Int.reduceMul, Int.reduceEq, Int.reduceNe, Int.reduceLT, Int.reduceLE, Int.reduceGT, Int.reduceGE, f0, f1, f2, f3, f9, f10, f43, f44, f45, hrk]
    refine newI_intro fun idz hidz => ?_
    have kz := lt_of_bnd hidz hMh
    simp -implicitDefEqProofs (maxSteps := 1000000) (disch := omega) only [↓xsP, ↓vc_seq, xsQ, xsT, xsR, xsD, ↓reduceIte, reduceCtorEq, eq_self, ne_eq, imp_self, forall_const, Nat.reduceEqDiff, Nat.reduceAdd, Nat.reduceSub, Nat.reduceMul, Nat.reduceLT, Nat.reduceLeDiff, Nat.reduceBEq, Nat.reduceDiv, Nat.reduceMod, Int.reduceToNat, Int.reduceNeg, Int.reduceAdd, Int.reduceSub, Int.reduceMul, Int.reduceEq, Int.reduceNe, Int.reduceLT, Int.reduceLE, Int.reduceGT, Int.reduceGE, f0, f1, f2, f3, f9, f10, f43, f44, f45, hrk]
    refine app_copy hidz hMh hRl (by omega) fun id1 N1 hid1 hN1 hle1 => ?_
    obtain ⟨oa, hoa⟩ : ∃ oa, (toldL b ops).getD k default = oa := ⟨_, rfl⟩
    have hev := seqE_get 0 (toldL b ops) k (by rw [hLl]; exact hk)
    rw [hoa, Nat.zero_add] at hev
    have hRk : R[2 * k + 1]? = some [.int .i64 ((k % 3 : Nat) : Int), .bool true, .int .i64 oa.1.kind, .int .i64 oa.1.key, .int .i64 oa.1.to, .int .i64 oa.1.val, .int .i64 oa.2.err, .bool oa.2.ok, .int .i64 oa.2.pair.key, .int .i64 oa.2.pair.val, .int .i64 oa.2.n, .sl (oa.2.pairs.map Pr.row)] := by
      have hlt : 2 * k + 1 < (seqE 0 (toldL b ops)).length := by rw [seqE_len, hLl]; omega
      rw [List.getD_eq_getElem?_getD, List.getElem?_eq_getElem hlt, Option.getD_some] at hev
      rw [← hR0, List.getElem?_map, List.getElem?_eq_getElem hlt, hev]
      rfl
    have hq : (0 ≤ (k : Int) * 2 + 1 ∧ (k : Int) * 2 + 1 < ((2 * ops.length : Nat) : Int)) = True := eq_true ⟨by omega, by omega⟩
    simp -implicitDefEqProofs (maxSteps := 1000000) (disch := omega) only [↓xsP, ↓vc_seq, xsQ, xsT, xsR, xsD, ↓reduceIte, reduceCtorEq, eq_self, ne_eq, imp_self, forall_const, Nat.reduceEqDiff, Nat.reduceAdd, Nat.reduceSub, Nat.reduceMul, Nat.reduceLT, Nat.reduceLeDiff, Nat.reduceBEq, Nat.reduceDiv, Nat.reduceMod, Int.reduceToNat, Int.reduceNeg, Int.reduceAdd, Int.reduceSub, Int.reduceMul, Int.reduceEq, Int.reduceNe, Int.reduceLT, Int.reduceLE, Int.reduceGT, Int.reduceGE, f0, f1, f2, f3, f9, f10, f43, f44, f45, hrk, hN1, ek, hRk, hq]
    obtain ⟨R1, hR1⟩ : ∃ R1, R.set (2 * k + 1) [.int .i64 ((k % 3 : Nat) : Int), .bool true, .int .i64 oa.1.kind, .int .i64 oa.1.key, .int .i64 oa.1.to, .int .i64 oa.1.val, .int .i64 oa.2.err, .bool oa.2.ok, .int .i64 oa.2.pair.key, .int .i64 oa.2.pair.val, .int .i64 (bitsA BinOp.xor IntKind.i64 oa.2.n by0), .sl (oa.2.pairs.map Pr.row)] = R1 := ⟨_, rfl⟩
    rw [hR1]
    have hR1l : R1.length = 2 * ops.length := by rw [← hR1, List.length_set, hRl]
    obtain ⟨N2, eN2, hN21, hN2h, hle2, hB2⟩ : ∃ N2, N2 = N1.set id1 (.cells 36 R1 0) ∧ N2 id1 = some (.cells 36 R1 0) ∧ N2 idh = some (.cells 36 R (seqE 0 (toldL b ops)).length) ∧ M3.le N2 ∧ M3 id1 = none := by
      refine ⟨_, rfl, Mem.set_eq _ _ _, ?_, fun k bk hk => ?_, hid1 _ (Nat.le_refl _)⟩
      · have := lt_of_bnd hid1 hMh
        rw [Mem.set_ne _ _ _ _ (by omega)]
        exact hle1 _ _ hMh
      · have := lt_of_bnd hid1 hk
        rw [Mem.set_ne _ _ _ _ (by omega)]
        exact hle1 _ _ hk
    rw [← eN2]
    clear eN2
    refine newI_intro fun idy hidy => ?_
    simp -implicitDefEqProofs (maxSteps := 1000000) (disch := omega) only [↓xsP, ↓vc_seq, xsQ, xsT, xsR, xsD, ↓reduceIte, reduceCtorEq, eq_self, ne_eq, imp_self, forall_const, Nat.reduceEqDiff, Nat.reduceAdd, Nat.reduceSub, Nat.reduceMul, Nat.reduceLT, Nat.reduceLeDiff, Nat.reduceBEq, Nat.reduceDiv, Nat.reduceMod, Int.reduceToNat, Int.reduceNeg, Int.reduceAdd, Int.reduceSub, Int.reduceMul, Int.reduceEq, Int.reduceNe, Int.reduceLT, Int.reduceLE, Int.reduceGT, Int.reduceGE, f0, f1, f2, f3, f9, f10, f43, f44, f45, hrk]
    refine app_copy hidy hN2h hRl (by omega) fun id2 N4 hid2 hN4 hle4 => ?_
    simp -implicitDefEqProofs (maxSteps := 1000000) (disch := omega) only [↓xsP, ↓vc_seq, xsQ, xsT, xsR, xsD, ↓reduceIte, reduceCtorEq, eq_self, ne_eq, imp_self, forall_const, Nat.reduceEqDiff, Nat.reduceAdd, Nat.reduceSub, Nat.reduceMul, Nat.reduceLT, Nat.reduceLeDiff, Nat.reduceBEq, Nat.reduceDiv, Nat.reduceMod, Int.reduceToNat, Int.reduceNeg, Int.reduceAdd, Int.reduceSub, Int.reduceMul, Int.reduceEq, Int.reduceNe, Int.reduceLT, Int.reduceLE, Int.reduceGT, Int.reduceGE, f0, f1, f2, f3, f9, f10, f43, f44, f45, hrk, hN4, ek, hRk, hq]
    obtain ⟨R2, hR2⟩ : ∃ R2, R.set (2 * k + 1) [.int .i64 ((k % 3 : Nat) : Int), .bool true, .int .i64 oa.1.kind, .int .i64 oa.1.key, .int .i64 oa.1.to, .int .i64 oa.1.val, .int .i64 oa.2.err, .bool (!oa.2.ok), .int .i64 oa.2.pair.key, .int .i64 oa.2.pair.val, .int .i64 oa.2.n, .sl (oa.2.pairs.map Pr.row)] = R2 := ⟨_, rfl⟩
    rw [hR2]
    have hR2l : R2.length = 2 * ops.length := by rw [← hR2, List.length_set, hRl]
    have hset : ∀ a : Ans, ((seqE 0 (toldL b ops)).map Evt.row).set (2 * k + 1) (Evt.row ⟨((k % 3 : Nat) : Int), true, oa.1, a⟩) = (seqE 0 ((toldL b ops).set k (oa.1, a))).map Evt.row := fun a => by
      rw [seqE_set 0 (toldL b ops) k (oa.1, a) (by rw [hLl]; exact hk) (by rw [hoa]), List.map_set, Nat.zero_add]
    rw [hR0] at hset
    have hA1 := turned_any (k := k) (a := { oa.2 with n := bitsA BinOp.xor IntKind.i64 oa.2.n by0 }) hR h1 h3 hmo hbi hoi hk (by rw [hoa]; intro h; exact xor_ne hby h4 (congrArg Ans.n h)) (by rw [hoa]) (by rw [hoa])
    have hA2 := turned_any (k := k) (a := { oa.2 with ok := !oa.2.ok }) hR h1 h3 hmo hbi hoi hk (by rw [hoa]; intro h; have := congrArg Ans.ok h; simp at this) (by rw [hoa]) (by rw [hoa])
    rw [hoa, ← hset] at hA1 hA2
    have hA1' : ∀ X : Mem, XCalls Go.Proofs.Tryd.prog 10 [.l (.sl (b.map Pr.row)), .l (.sl R1)] X fun x X' => x = .l (.bool false) ∧ X' = X := fun X => by rw [← hR1]; exact hA1 X
    have hA2' : ∀ X : Mem, XCalls Go.Proofs.Tryd.prog 10 [.l (.sl (b.map Pr.row)), .l (.sl R2)] X fun x X' => x = .l (.bool false) ∧ X' = X := fun X => by rw [← hR2]; exact hA2 X
    have k12 : id1 ≠ id2 := fun e => by have := lt_of_bnd hid2 hN21; omega
    have kh2 : idh ≠ id2 := fun e => by have := lt_of_bnd hid2 hN2h; omega
    have kh1 : idh ≠ id1 := fun e => by rw [← e, hMh] at hB2; cases hB2
    obtain ⟨N5, eN5, hN51, hN52, hN5h, hB5⟩ : ∃ N5, N5 = N4.set id2 (.cells 36 R2 0) ∧ N5 id1 = some (.cells 36 R1 0) ∧ N5 id2 = some (.cells 36 R2 0) ∧ N5 idh = some (.cells 36 R (seqE 0 (toldL b ops)).length) ∧ ∀ k bk, M3 k = some bk → N5 k = some bk ∧ k ≠ id1 ∧ k ≠ id2 := by
      refine ⟨_, rfl, ?_, Mem.set_eq _ _ _, ?_, fun k bk hk => ⟨?_, fun e => ?_, fun e => ?_⟩⟩
      · rw [Mem.set_ne _ _ _ _ (fun e => k12 e.symm)]
        exact hle4 _ _ hN21
      · rw [Mem.set_ne _ _ _ _ (fun e => kh2 e.symm)]
        exact hle4 _ _ hN2h
      · have h := hle2 _ _ hk
        have := lt_of_bnd hid2 h
        rw [Mem.set_ne _ _ _ _ (by omega)]
        exact hle4 _ _ h
      · rw [e, hB2] at hk
        cases hk
      · have := lt_of_bnd hid2 (hle2 _ _ hk)
        omega
    rw [← eN5]
    clear eN5
    refine callI_gs (GStep.frz hN51) (callI_of (XCalls.mono (XCalls.rd (.cons (.inl ⟨rfl, Fast.sl _⟩) (.cons (.inr ⟨_, _, rfl, rfl, Rd.ms (Mem.set_eq _ _ _) (Nat.le_max_right _ _) hR1l.symm⟩) .nil)) (hA1' _)) ?_))
    rintro _ _ ⟨rfl, rfl⟩
    simp -implicitDefEqProofs (maxSteps := 1000000) (disch := omega) only [↓xsP, ↓vc_seq, xsQ, xsT, xsR, xsD, ↓reduceIte, reduceCtorEq, eq_self, ne_eq, imp_self, forall_const, Nat.reduceEqDiff, Nat.reduceAdd, Nat.reduceSub, Nat.reduceMul, Nat.reduceLT, Nat.reduceLeDiff, Nat.reduceBEq, Nat.reduceDiv, Nat.reduceMod, Int.reduceToNat, Int.reduceNeg, Int.reduceAdd, Int.reduceSub, Int.reduceMul, Int.reduceEq, Int.reduceNe, Int.reduceLT, Int.reduceLE, Int.reduceGT, Int.reduceGE, f0, f1, f2, f3, f9, f10, f43, f44, f45, hrk]
    refine callI_gs (GStep.frz (id := id2) (by rw [Mem.set_ne _ _ _ _ k12]; exact hN52)) (callI_of (XCalls.mono (XCalls.rd (.cons (.inl ⟨rfl, Fast.sl _⟩) (.cons (.inr ⟨_, _, rfl, rfl, Rd.ms (Mem.set_eq _ _ _) (Nat.le_max_right _ _) hR2l.symm⟩) .nil)) (hA2' _)) ?_))
    rintro _ _ ⟨rfl, rfl⟩
    simp -implicitDefEqProofs (maxSteps := 1000000) (disch := omega) only [↓xsP, ↓vc_seq, xsQ, xsT, xsR, xsD, ↓reduceIte, reduceCtorEq, eq_self, ne_eq, imp_self, forall_const, Nat.reduceEqDiff, Nat.reduceAdd, Nat.reduceSub, Nat.reduceMul, Nat.reduceLT, Nat.reduceLeDiff, Nat.reduceBEq, Nat.reduceDiv, Nat.reduceMod, Int.reduceToNat, Int.reduceNeg, Int.reduceAdd, Int.reduceSub, Int.reduceMul, Int.reduceEq, Int.reduceNe, Int.reduceLT, Int.reduceLE, Int.reduceGT, Int.reduceGE, f0, f1, f2, f3, f9, f10, f43, f44, f45, hrk]
    have hLight : LightOk (seqE 0 (toldL b ops)) := by
      refine ⟨by rw [seqE_len, hLl]; omega, ?_⟩
      have h5 := psum_le (B := 54) (seqE 0 (toldL b ops)) (seqE_mem (P := fun e => e.ans.pairs.length ≤ 54) fun x hx t => ⟨Nat.zero_le _, h3' x hx⟩)
      rw [seqE_len, hLl] at h5
      omega
    refine call_of (XCalls.rd (.cons (.inr ⟨_, _, rfl, rfl, Rd.ms (rows := R) (by rw [Mem.set_ne _ _ _ _ (fun e => kh2 e.symm), Mem.set_ne _ _ _ _ (fun e => kh1 e.symm)]; exact hN5h) (by rw [hRl, seqE_len, hLl]; omega) hRl.symm⟩) .nil) (by rw [← hR0]; exact light_zero (seqE 0 (toldL b ops)) hLight _)) ?_
    simp -implicitDefEqProofs (maxSteps := 1000000) (disch := omega) only [↓xsP, ↓vc_seq, xsQ, xsT, xsR, xsD, ↓reduceIte, reduceCtorEq, eq_self, ne_eq, imp_self, forall_const, Nat.reduceEqDiff, Nat.reduceAdd, Nat.reduceSub, Nat.reduceMul, Nat.reduceLT, Nat.reduceLeDiff, Nat.reduceBEq, Nat.reduceDiv, Nat.reduceMod, Int.reduceToNat, Int.reduceNeg, Int.reduceAdd, Int.reduceSub, Int.reduceMul, Int.reduceEq, Int.reduceNe, Int.reduceLT, Int.reduceLE, Int.reduceGT, Int.reduceGE]
    refine call_of (awake20_spec _) ?_
    simp -implicitDefEqProofs (maxSteps := 1000000) (disch := omega) only [↓xsP, ↓vc_seq, xsQ, xsT, xsR, xsD, ↓reduceIte, reduceCtorEq, eq_self, ne_eq, imp_self, forall_const, Nat.reduceEqDiff, Nat.reduceAdd, Nat.reduceSub, Nat.reduceMul, Nat.reduceLT, Nat.reduceLeDiff, Nat.reduceBEq, Nat.reduceDiv, Nat.reduceMod, Int.reduceToNat, Int.reduceNeg, Int.reduceAdd, Int.reduceSub, Int.reduceMul, Int.reduceEq, Int.reduceNe, Int.reduceLT, Int.reduceLE, Int.reduceGT, Int.reduceGE]
    refine fin_ok (fun k bk hk => ?_) ⟨rfl, rfl⟩
    obtain ⟨g1, g2, g3⟩ := hB5 _ _ (I3.le _ _ (hMB _ _ hk))
    rw [Mem.set_ne _ _ _ _ (fun e => g3 e.symm), Mem.set_ne _ _ _ _ (fun e => g2 e.symm)]
    exact g1
end Go.X
