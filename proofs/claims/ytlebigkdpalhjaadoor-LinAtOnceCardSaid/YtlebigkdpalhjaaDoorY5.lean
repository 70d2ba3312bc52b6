/- Texts joined: Ui Uj. -/
import Derived.Test.YtlebigkdpalhjaaDoorY4
set_option linter.unusedVariables false
set_option linter.unusedSimpArgs false
set_option maxRecDepth 100000
namespace Go.X

def onceE (n : Int) : Nat → List (Opn × Ans) → List Evt
  | _, [] => []
  | i, x :: r => ⟨n - 1 - i, false, x.1, ans0⟩ :: onceE n (i + 1) r
def onceR (n : Int) : Nat → List (Opn × Ans) → List Evt
  | _, [] => []
  | i, x :: r => onceR n (i + 1) r ++ [⟨n - 1 - i, true, x.1, x.2⟩]
def onceO (n : Int) : Nat → List (Opn × Ans) → List Cl
  | _, [] => []
  | i, x :: r => ⟨n - 1 - i, i, -1, x.1, ans0⟩ :: onceO n (i + 1) r
def onceC (n : Int) : Nat → List (Opn × Ans) → List Cl
  | _, [] => []
  | i, x :: r => ⟨n - 1 - i, i, 2 * n - 1 - i, x.1, x.2⟩ :: onceC n (i + 1) r
def onceM (n : Int) : Nat → List (Opn × Ans) → List (Int × Int)
  | _, [] => []
  | i, x :: r => (n - 1 - i, (i : Int) + 1) :: onceM n (i + 1) r
theorem onceE_len (n : Int) : ∀ (i : Nat) (L : List (Opn × Ans)), (onceE n i L).length = L.length
  | _, [] => rfl
  | i, x :: r => by rw [onceE, List.length_cons, onceE_len n (i + 1) r, List.length_cons]
theorem onceR_len (n : Int) : ∀ (i : Nat) (L : List (Opn × Ans)), (onceR n i L).length = L.length
  | _, [] => rfl
  | i, x :: r => by rw [onceR, List.length_append, onceR_len n (i + 1) r, List.length_cons]; rfl
theorem onceC_len (n : Int) : ∀ (i : Nat) (L : List (Opn × Ans)), (onceC n i L).length = L.length
  | _, [] => rfl
  | i, x :: r => by rw [onceC, List.length_cons, onceC_len n (i + 1) r, List.length_cons]
theorem onceE_snoc (n : Int) : ∀ (i : Nat) (L : List (Opn × Ans)) (x : Opn × Ans), onceE n i (L ++ [x]) = onceE n i L ++ [⟨n - 1 - ((i + L.length : Nat) : Int), false, x.1, ans0⟩]
  | i, [], x => rfl
  | i, y :: r, x => by
    rw [List.cons_append, onceE, onceE_snoc n (i + 1) r x, onceE, List.length_cons, show i + 1 + r.length = i + (r.length + 1) by omega]
    rfl
theorem onceR_snoc (n : Int) : ∀ (i : Nat) (L : List (Opn × Ans)) (x : Opn × Ans), onceR n i (L ++ [x]) = ⟨n - 1 - ((i + L.length : Nat) : Int), true, x.1, x.2⟩ :: onceR n i L
  | i, [], x => rfl
  | i, y :: r, x => by
    rw [List.cons_append, onceR, onceR_snoc n (i + 1) r x, onceR, List.length_cons, show i + 1 + r.length = i + (r.length + 1) by omega]
    rfl
theorem onceC_get (n : Int) : ∀ (i : Nat) (L : List (Opn × Ans)) (j : Nat), j < L.length → (onceC n i L).getD j default = ⟨n - 1 - ((i + j : Nat) : Int), ((i + j : Nat) : Int), 2 * n - 1 - ((i + j : Nat) : Int), (L.getD j default).1, (L.getD j default).2⟩
  | _, [], j, h => by simp at h
  | i, x :: r, 0, _ => by simp [onceC]
  | i, x :: r, j + 1, h => by
    have := onceC_get n (i + 1) r j (by simpa using h)
    rw [onceC, List.getD_cons_succ, List.getD_cons_succ, this, show i + 1 + j = i + (j + 1) by omega]
theorem iget_lo {ms : List (Int × Int)} {t : Int} (h : ∀ p ∈ ms, t < p.1) : iget ms t = none := by
  induction ms with
  | nil => rfl
  | cons p r ih =>
    obtain ⟨a, v⟩ := p
    have := h (a, v) (by simp)
    rw [iget, if_neg (by simp only at this; omega)]
    exact ih fun q hq => h q (by simp [hq])
theorem iput_end {ms : List (Int × Int)} {t : Int} (v : Int) (h : ∀ p ∈ ms, t < p.1) : iput ms t v = ms ++ [(t, v)] := by
  induction ms with
  | nil => rfl
  | cons p r ih =>
    obtain ⟨a, w⟩ := p
    have := h (a, w) (by simp)
    rw [iput, if_neg (by simp only at this; omega), ih fun q hq => h q (by simp [hq])]
    rfl
theorem iget_end {ms : List (Int × Int)} {t : Int} (v : Int) (h : ∀ p ∈ ms, t < p.1) : iget (ms ++ [(t, v)]) t = some v := by
  induction ms with
  | nil => simp [iget]
  | cons p r ih =>
    obtain ⟨a, w⟩ := p
    have := h (a, w) (by simp)
    rw [List.cons_append, iget, if_neg (by simp only at this; omega)]
    exact ih fun q hq => h q (by simp [hq])
theorem idel_end {ms : List (Int × Int)} {t : Int} (v : Int) (h : ∀ p ∈ ms, t < p.1) : idel (ms ++ [(t, v)]) t = ms := by
  induction ms with
  | nil => simp [idel]
  | cons p r ih =>
    obtain ⟨a, w⟩ := p
    have := h (a, w) (by simp)
    rw [List.cons_append, idel, if_neg (by simp only at this; omega), ih fun q hq => h q (by simp [hq])]
theorem rrun_once (n : Int) (hn : n ≤ 6) : ∀ (i : Nat) (C : List Cl) (ms : List (Int × Int)) (L : List (Opn × Ans)), C.length = i → (i : Int) + L.length ≤ n → (∀ p ∈ ms, n - 1 - (i : Int) < p.1) → (∀ x ∈ L, mayOpB x.1 = true) →
    rrun (onceE n i L) i (C, ms) = some (C ++ onceO n i L, ms ++ onceM n i L)
  | i, C, ms, [], _, _, _, _ => by simp [onceE, onceO, onceM, rrun]
  | i, C, ms, x :: r, hC, hl, hm, hop => by
    have hx := hop x (by simp)
    rw [List.length_cons] at hl
    have h1 : rstep i ⟨n - 1 - i, false, x.1, ans0⟩ (C, ms) = some (C ++ [⟨n - 1 - i, i, -1, x.1, ans0⟩], ms ++ [(n - 1 - (i : Int), (i : Int) + 1)]) := by
      rw [rstep, if_neg (by simp only; omega), if_pos rfl, if_neg (by simp [iget_lo hm, hx])]
      simp only [iput_end _ hm, hC]
    have ih := rrun_once n hn (i + 1) (C ++ [⟨n - 1 - i, i, -1, x.1, ans0⟩]) (ms ++ [(n - 1 - (i : Int), (i : Int) + 1)]) r (by simp [hC]) (by omega) (fun p hp => by
      rcases List.mem_append.1 hp with hp | hp
      · have := hm p hp
        omega
      · rw [List.mem_singleton.1 hp]
        show n - 1 - ((i + 1 : Nat) : Int) < n - 1 - (i : Int)
        omega) fun y hy => hop y (by simp [hy])
    rw [onceE, rrun, h1, Option.bind_some, ih, onceO, onceM, List.append_assoc, List.append_assoc]
    rfl
theorem rrun_onceR (n : Int) (hn : n ≤ 6) : ∀ (i m : Nat) (A : List Cl) (ms : List (Int × Int)) (L : List (Opn × Ans)), A.length = i → (i : Int) + L.length ≤ n → (m : Int) + L.length = 2 * n - i → (∀ p ∈ ms, n - 1 - (i : Int) < p.1) →
    rrun (onceR n i L) m (A ++ onceO n i L, ms ++ onceM n i L) = some (A ++ onceC n i L, ms)
  | i, m, A, ms, [], _, _, _, _ => by simp [onceR, onceO, onceC, onceM, rrun]
  | i, m, A, ms, x :: r, hA, hl, hm, hk => by
    rw [List.length_cons] at hl hm
    have ih := rrun_onceR n hn (i + 1) m (A ++ [⟨n - 1 - i, i, -1, x.1, ans0⟩]) (ms ++ [(n - 1 - (i : Int), (i : Int) + 1)]) r (by simp [hA]) (by omega) (by omega) (fun p hp => by
      rcases List.mem_append.1 hp with hp | hp
      · have := hk p hp
        omega
      · rw [List.mem_singleton.1 hp]
        show n - 1 - ((i + 1 : Nat) : Int) < n - 1 - (i : Int)
        omega)
    rw [List.append_assoc, List.append_assoc] at ih
    have e1 : (iget (ms ++ [(n - 1 - (i : Int), (i : Int) + 1)]) (n - 1 - i)).getD 0 = (i : Int) + 1 := by rw [iget_end _ hk]; rfl
    have e2 : ((i : Int) + 1 - 1).toNat = A.length := by omega
    have e3 : (A ++ [(⟨n - 1 - i, i, -1, x.1, ans0⟩ : Cl)] ++ onceC n (i + 1) r).getD A.length default = ⟨n - 1 - i, i, -1, x.1, ans0⟩ := by simp [List.getD_eq_getElem?_getD]
    have h1 : rstep (m + (onceR n (i + 1) r).length) ⟨n - 1 - i, true, x.1, x.2⟩ (A ++ [⟨n - 1 - i, i, -1, x.1, ans0⟩] ++ onceC n (i + 1) r, ms ++ [(n - 1 - (i : Int), (i : Int) + 1)]) = some (A ++ onceC n i (x :: r), ms) := by
      rw [rstep, if_neg (by simp only; omega), if_neg (by simp)]
      simp only [e1, e2, e3]
      rw [if_neg (by simp; omega)]
      have e4 : (((m + (onceR n (i + 1) r).length : Nat) : Int)) = 2 * n - 1 - i := by rw [onceR_len]; omega
      rw [e4, idel_end _ hk, onceC]
      simp
    rw [onceR, rrun_app]
    have ih' : rrun (onceR n (i + 1) r) m (A ++ onceO n i (x :: r), ms ++ onceM n i (x :: r)) = some (A ++ [⟨n - 1 - i, i, -1, x.1, ans0⟩] ++ onceC n (i + 1) r, ms ++ [(n - 1 - (i : Int), (i : Int) + 1)]) := ih
    rw [ih', Option.bind_some, rrun, h1]
    rfl
theorem readP_once {L : List (Opn × Ans)} (hl : L.length ≤ 6) (h : ∀ x ∈ L, mayOpB x.1 = true) : readP (onceE L.length 0 L ++ onceR L.length 0 L) = some (onceC L.length 0 L) := by
  have h1 := rrun_once (L.length : Int) (by omega) 0 [] [] L rfl (by omega) (fun p hp => by cases hp) h
  have h2 := rrun_onceR (L.length : Int) (by omega) 0 L.length [] [] L rfl (by omega) (by omega) (fun p hp => by cases hp)
  simp only [List.nil_append] at h1 h2
  rw [readP, rrun_app, h1, Option.bind_some, onceE_len, Nat.zero_add, h2]
  rfl
theorem callsP_once {L : List (Opn × Ans)} (hl : L.length ≤ 6) (h : ∀ x ∈ L, mayOpB x.1 = true) : callsP (onceE L.length 0 L ++ onceR L.length 0 L) = onceC L.length 0 L := by rw [callsP, readP_once hl h]; rfl
theorem okP_once {L : List (Opn × Ans)} (hl : L.length ≤ 6) (h : ∀ x ∈ L, mayOpB x.1 = true) : okP (onceE L.length 0 L ++ onceR L.length 0 L) = true := by rw [okP, readP_once hl h]; rfl
theorem soS_once (b : List Pr) (L : List (Opn × Ans)) : ∀ n, n ≤ L.length → soS b (onceC L.length 0 L) n = (runL b ((L.take n).map (·.1)), bof (∀ j, j < n → doA (runL b ((L.take j).map (·.1))) (L.getD j default).1 = (L.getD j default).2))
  | 0, _ => by rw [soS, bof_true (fun j hj => absurd hj (by omega))]; rfl
  | n + 1, hn => by
    have ih := soS_once b L n (by omega)
    have hg := onceC_get (L.length : Int) 0 L n (by omega)
    rw [soS, ih, hg, take_sc L default (show n < L.length by omega), List.map_append, List.map_cons, List.map_nil, runL_snoc]
    simp only [Prod.mk.injEq, true_and]
    rw [Bool.eq_iff_iff, Bool.and_eq_true, bof_iff, bof_iff, bof_iff]
    constructor
    · rintro ⟨h1, h2⟩ j hj
      by_cases e : j = n
      · rw [e]; exact h2
      · exact h1 j (by omega)
    · exact fun h => ⟨fun j hj => h j (by omega), h n (by omega)⟩
theorem right_once {b : List Pr} {L : List (Opn × Ans)} (hb : Rises b) (hl : L.length ≤ 6) (hm : ∀ x ∈ L, mayOpB x.1 = true) (he : ∀ x ∈ L, x.2.err = 0) (ht : Told b L) : (rightO b (onceE L.length 0 L ++ onceR L.length 0 L) (allI L.length)).isSome = true := by
  have hC := callsP_once hl hm
  have hCl := onceC_len (L.length : Int) 0 L
  have hf : ∀ j, j < L.length → 0 ≤ ((onceC L.length 0 L).getD j default).fin := fun j hj => by
    rw [onceC_get _ 0 L j hj]
    show (0 : Int) ≤ 2 * (L.length : Int) - 1 - ((0 + j : Nat) : Int)
    omega
  have hn : namedB (onceC L.length 0 L) (allI L.length) = true := bof_true ⟨fun x hx => by rw [hCl]; exact mem_allI.1 hx, lt_nodup (allI_lt _), fun j hj h0 => ⟨fun _ => by
    rw [hCl] at hj
    rw [onceC_get _ 0 L j hj]
    exact he _ (getD_mem' L default hj), fun _ => mem_allI.2 ⟨by omega, by rw [hCl] at hj; omega⟩⟩⟩
  have ht' : timelyB (onceC L.length 0 L) (allI L.length) = true := bof_true fun a c hac hc => by
    rw [allI_len] at hc
    rw [allI_get hc, allI_get (show a < L.length by omega), clAt_nat, clAt_nat, onceC_get _ 0 L c hc, onceC_get _ 0 L a (by omega)]
    rintro ⟨_, h2⟩
    simp only at h2
    omega
  rw [right_mk (bof_true hb) (okP_once hl hm) (by rw [hC]; exact hn) (by rw [hC]; exact ht'), hC, putL_idO ((rises_asc b).1 hb), goes_all hf, soS_once b L _ (Nat.le_refl _)]
  rw [if_pos (bof_true (show ∀ j, j < L.length → doA (runL b ((L.take j).map (·.1))) (L.getD j default).1 = (L.getD j default).2 from ht))]
  rfl
theorem once_mem {P : Evt → Prop} (n : Int) : ∀ {i : Nat} {L : List (Opn × Ans)}, (∀ x ∈ L, ∀ t : Int, P ⟨t, false, x.1, ans0⟩ ∧ P ⟨t, true, x.1, x.2⟩) → (∀ e ∈ onceE n i L, P e) ∧ ∀ e ∈ onceR n i L, P e
  | _, [], _ => ⟨fun e he => (by cases he), fun e he => (by cases he)⟩
  | i, x :: r, h => by
    obtain ⟨h1, h2⟩ := once_mem n (i := i + 1) (L := r) fun y hy => h y (by simp [hy])
    refine ⟨fun e he => ?_, fun e he => ?_⟩
    · rw [onceE] at he
      rcases List.mem_cons.1 he with rfl | he
      · exact (h x (by simp) _).1
      · exact h1 e he
    · rw [onceR] at he
      rcases List.mem_append.1 he with he | he
      · exact h2 e he
      · rw [List.mem_singleton.1 he]
        exact (h x (by simp) _).2
end Go.X
set_option linter.unusedVariables false
set_option linter.unusedSimpArgs false
set_option maxHeartbeats 20000000
set_option maxRecDepth 100000
namespace Go.X
open Go.Proofs.Tryd (prog)

def TwoB (B M : Mem) (xh : Lf) (Lh : List Evt) (xr : Lf) (Lr : List Evt) : Prop := ∃ Br, EvB B Br xr Lr ∧ EvB Br M xh Lh
theorem TwoB.le {B M : Mem} {xh xr : Lf} {Lh Lr : List Evt} (I : TwoB B M xh Lh xr Lr) : B.le M := by
  obtain ⟨Br, h1, h2⟩ := I
  exact Mem.le_trans h1.le h2.le
theorem TwoB.grow {B M N : Mem} {xh xr : Lf} {Lh Lr : List Evt} (I : TwoB B M xh Lh xr Lr) (h : M.le N) : TwoB B N xh Lh xr Lr := by
  obtain ⟨Br, h1, h2⟩ := I
  exact ⟨Br, h1, h2.grow h⟩
theorem two_src {B N : Mem} {xh xr : Lf} {Lh Lr : List Evt} (I : TwoB B N xh Lh xr Lr) : ∃ rows : List (List Lf), rows.map (fun r => r.map wkL) = Lr.map Evt.row ∧ rows.length = Lr.length ∧ ∀ (X : Mem) (te : TI), N.le X → srcRows Go.Proofs.Tryd.prog X 23 23 36 te (.l xr) = some rows := by
  obtain ⟨Br, h1, h2⟩ := I
  rcases h1.own with ⟨rfl, rfl⟩ | ⟨id, rows, keep, a1, a2, a3, a4, rfl⟩
  · exact ⟨[], rfl, rfl, fun X te _ => by unfold srcRows; rw [if_pos rfl]⟩
  · have hl := EvB.len a4
    refine ⟨rows, a4, hl, fun X te hX => ?_⟩
    unfold srcRows
    rw [if_pos rfl]
    simp only [hX _ _ (h2.le _ _ a2)]
    rw [if_pos ⟨trivial, by omega⟩, List.drop_zero, List.take_of_length_le (by omega)]
theorem app_two {B N : Mem} {xh xr : Lf} {Lh Lr : List Evt} (I : TwoB B N xh Lh xr Lr) {pb : Nat} (hb : ∀ j, pb ≤ j → N j = none) (rs : List (List Lf)) (es : List Evt) (hr : rs.map (fun r => r.map wkL) = es.map Evt.row) (hne : es ≠ []) (hl : Lh.length + es.length ≤ 1000) {n : Nat} (hn : n = es.length) {K : AV → Mem → Prop}
    (hk : ∀ x' N', TwoB B N' x' (Lh ++ es) xr Lr → K (.l x') N') :
    @appI Go.Proofs.Tryd.prog (N.set pb (.cells 36 rs 0)) 23 23 (.l xh) (.l (.ms pb 0 n)) ⟨K⟩ := by
  obtain ⟨Br, h1, h2⟩ := I
  exact app_evs h2 hb rs es hr hne hl hn fun x' N' I' => hk x' N' ⟨Br, h1, I'⟩
theorem pre_two {B N : Mem} {xh xr : Lf} {Lh Lr : List Evt} (I : TwoB B N xh Lh xr Lr) {pb : Nat} (hb : ∀ j, pb ≤ j → N j = none) (rs : List (List Lf)) (e : Evt) (hr : rs.map (fun r => r.map wkL) = [e].map Evt.row) (hl : 1 + Lr.length ≤ 1000) {K : AV → Mem → Prop}
    (hk : ∀ x' N', TwoB B N' xh Lh x' (e :: Lr) → K (.l x') N') :
    @appI Go.Proofs.Tryd.prog (N.set pb (.cells 36 rs 0)) 23 23 (.l (.ms pb 0 1)) (.l xr) ⟨K⟩ := by
  obtain ⟨rows, e1, e2, hsrc⟩ := two_src I
  have hrl : rs.length = 1 := EvB.len hr
  have hBN := I.le
  obtain ⟨Br, h1, h2⟩ := I
  refine app_ms _ _ _ _ 36 _ _ ti_23 rfl ti_36 (by kernel_rfl) (by decide) pb 1 _ (rows := rs) (keep := 0) rows (Mem.set_eq _ _ _) (hsrc _ _ (le_new (Mem.le_refl _) hb)) (by omega) (Nat.zero_le _) ?_ ?_ (fun id' hid => ?_)
  · exact Nat.le_trans (Nat.mul_le_mul_right _ (show 1 + rows.length ≤ 1000 by omega)) (by decide)
  · omega
  · obtain ⟨g1, g2⟩ := bnd_new hid
    have hBi : B id' = none := by
      cases hB : B id' with
      | none => rfl
      | some bk => have := g2 id' (Nat.le_refl _); rw [hBN _ _ hB] at this; cases this
    rw [List.take_of_length_le (by omega), e2, show 1 + Lr.length = (e :: Lr).length by simp; omega]
    refine hk _ _ ⟨B.set id' (.cells 36 (rs ++ rows) 0), ⟨fun k bk hk' => ?_, .inr ⟨id', rs ++ rows, 0, hBi, Mem.set_eq _ _ _, Nat.zero_le _, by rw [List.map_append, hr, e1]; rfl, rfl⟩⟩, ⟨fun k bk hk' => ?_, ?_⟩⟩
    · rw [Mem.set_ne _ _ _ _ (fun e => by rw [← e, hBi] at hk'; cases hk')]
      exact hk'
    · rw [Mem.set_app] at hk' ⊢
      by_cases q : id' = k
      · rw [if_pos q] at hk' ⊢
        exact hk'
      · rw [if_neg q] at hk' ⊢
        have h3 := hBN _ _ hk'
        have := lt_of_bnd hb h3
        rw [Mem.del_ne _ _ _ (by omega), Mem.set_ne _ _ _ _ (by omega)]
        exact h3
    · rcases h2.own with h | ⟨idh, rowsh, keeph, a1, a2, a3⟩
      · exact .inl h
      · have k1 := lt_of_bnd hb a2
        refine .inr ⟨idh, rowsh, keeph, ?_, ?_, a3⟩
        · rw [Mem.set_ne _ _ _ _ (by omega)]
          cases hB : B idh with
          | none => rfl
          | some bk => rw [h1.le _ _ hB] at a1; cases a1
        · rw [Mem.set_ne _ _ _ _ (by omega), Mem.del_ne _ _ _ (by omega), Mem.set_ne _ _ _ _ (by omega)]
          exact a2
theorem join_two {B N : Mem} {xh xr : Lf} {Lh Lr : List Evt} (I : TwoB B N xh Lh xr Lr) (hl : Lh.length + Lr.length ≤ 1000) {K : AV → Mem → Prop}
    (hk : ∀ x' N', EvB B N' x' (Lh ++ Lr) → K (.l x') N') :
    @appI Go.Proofs.Tryd.prog N 23 23 (.l xh) (.l xr) ⟨K⟩ := by
  obtain ⟨rows, e1, e2, hsrc⟩ := two_src I
  have hBN := I.le
  have hfr : ∀ {id' : Nat}, (∀ j, id' ≤ j → N j = none) → B id' = none := fun {id'} g2 => by
    cases hB : B id' with
    | none => rfl
    | some bk => have := g2 id' (Nat.le_refl _); rw [hBN _ _ hB] at this; cases this
  obtain ⟨Br, h1, h2⟩ := I
  rcases h2.own with ⟨rfl, rfl⟩ | ⟨idh, rowsh, keeph, a1, a2, a3, a4, rfl⟩
  · refine app_nils _ _ _ _ 36 _ _ ti_23 rfl ti_36 (by kernel_rfl) (by decide) _ rows (hsrc _ _ (Mem.le_refl _)) ?_ ?_ (fun e => ?_) (fun hne id' hid => ?_)
    · exact Nat.le_trans (Nat.mul_le_mul_right _ (show rows.length ≤ 1000 by omega)) (by decide)
    · omega
    · refine hk _ _ ⟨hBN, .inl ⟨?_, rfl⟩⟩
      rw [e] at e2
      exact List.length_eq_zero_iff.1 e2.symm
    · rw [e2]
      refine hk _ _ ⟨fun k bk hk' => ?_, .inr ⟨id', rows, 0, hfr hid, Mem.set_eq _ _ _, Nat.zero_le _, by rw [e1]; rfl, rfl⟩⟩
      rw [Mem.set_ne _ _ _ _ (fun e => by rw [← e, hfr hid] at hk'; cases hk')]
      exact hBN _ _ hk'
  · have hlen := EvB.len a4
    refine app_ms _ _ _ _ 36 _ _ ti_23 rfl ti_36 (by kernel_rfl) (by decide) idh Lh.length _ (rows := rowsh) (keep := keeph) rows a2 (hsrc _ _ (Mem.le_refl _)) (by omega) (by omega) ?_ ?_ (fun id' hid => ?_)
    · exact Nat.le_trans (Nat.mul_le_mul_right _ (show Lh.length + rows.length ≤ 1000 by omega)) (by decide)
    · omega
    · rw [List.take_of_length_le (by omega), e2, show Lh.length + Lr.length = (Lh ++ Lr).length by simp]
      refine hk _ _ ⟨fun k bk hk' => ?_, .inr ⟨id', rowsh ++ rows, keeph, hfr hid, Mem.set_eq _ _ _, by rw [List.length_append]; omega, by rw [List.map_append, a4, e1, List.map_append], rfl⟩⟩
      rw [Mem.set_ne _ _ _ _ (fun e => by rw [← e, hfr hid] at hk'; cases hk'), Mem.del_ne _ _ _ (fun e => by rw [← e] at hk'; rw [h1.le _ _ hk'] at a1; cases a1)]
      exact hBN _ _ hk'
theorem EvB.up {B M : Mem} {x : Lf} {L : List Evt} (I : EvB B M x L) {id : Nat} {X : Blk} (hb : M id = none) : EvB (B.set id X) (M.set id X) x L := by
  refine ⟨fun k bk hk => ?_, ?_⟩
  · rw [Mem.set_app] at hk ⊢
    split at hk
    · rw [if_pos (by assumption)]; exact hk
    · rw [if_neg (by assumption)]; exact I.le _ _ hk
  · rcases I.own with h | ⟨id', rows, keep, a1, a2, a3⟩
    · exact .inl h
    · have hne : id ≠ id' := fun e => by rw [e, a2] at hb; cases hb
      exact .inr ⟨id', rows, keep, by rw [Mem.set_ne _ _ _ _ hne]; exact a1, by rw [Mem.set_ne _ _ _ _ hne]; exact a2, a3⟩
theorem EvB.down {A B M : Mem} {x : Lf} {L : List Evt} (I : EvB B M x L) (h : A.le B) : EvB A M x L := by
  refine ⟨Mem.le_trans h I.le, ?_⟩
  rcases I.own with h' | ⟨id', rows, keep, a1, a2, a3⟩
  · exact .inl h'
  · refine .inr ⟨id', rows, keep, ?_, a2, a3⟩
    cases hA : A id' with
    | none => rfl
    | some bk => rw [h _ _ hA] at a1; cases a1
theorem TwoB.up {B M : Mem} {xh xr : Lf} {Lh Lr : List Evt} (I : TwoB B M xh Lh xr Lr) {id : Nat} {X : Blk} (hb : M id = none) : TwoB (B.set id X) (M.set id X) xh Lh xr Lr := by
  obtain ⟨Br, h1, h2⟩ := I
  refine ⟨Br.set id X, h1.up ?_, h2.up hb⟩
  cases hA : Br id with
  | none => rfl
  | some bk => rw [h2.le _ _ hA] at hb; cases hb
theorem TwoB.down {A B M : Mem} {xh xr : Lf} {Lh Lr : List Evt} (I : TwoB B M xh Lh xr Lr) (h : A.le B) : TwoB A M xh Lh xr Lr := by
  obtain ⟨Br, h1, h2⟩ := I
  exact ⟨Br, h1.down h, h2⟩
theorem linAtOnce_walk (b : List Pr) (ops : List Opn) (hb : b.length ≤ 8796093022200) (hbi : ∀ p ∈ b, IntOk' p.key ∧ IntOk' p.val) (hol : ops.length ≤ 140737488355328) (hoi : ∀ o ∈ ops, IntOk' o.key ∧ IntOk' o.val) (M : Mem) :
    XCalls Go.Proofs.Tryd.prog 6 [.l (.sl (b.map Pr.row)), .l (.sl (ops.map Opn.row))] M fun r M' => r = .l (.bool true) ∧ M' = M := by
  refine xcalls_intro (rs := [.tmp 4]) Go.Proofs.Tryd.func6 rfl (by kernel_rfl) rfl rfl (by kernel_rfl) (by simp) ?_
  simp -implicitDefEqProofs (maxSteps := 1000000) (disch := omega) only [↓xsP, ↓vc_seq, xsQ, xsT, xsR, xsD, ↓reduceIte, reduceCtorEq, eq_self, ne_eq, imp_self, forall_const, Nat.reduceEqDiff, Nat.reduceAdd, Nat.reduceSub, Nat.reduceMul, Nat.reduceLT, Nat.reduceLeDiff, Nat.reduceBEq, Nat.reduceDiv, Nat.reduceMod, Int.reduceToNat, Int.reduceNeg, Int.reduceAdd, Int.reduceSub, Int.reduceMul, Int.reduceEq, Int.reduceNe, Int.reduceLT, Int.reduceLE, Int.reduceGT, Int.reduceGE]
  have hend : ∀ {K : AV → Mem → Prop}, (K (.l (.bool true)) M) → @callI Go.Proofs.Tryd.prog 11 [] M ⟨K⟩ := fun h => call_of (awake20_spec _) h
  by_cases h1 : b.length ≤ 20
  rotate_left
  · have q1 : decide ((b.length : Int) > 20) = true := decide_eq_true (by omega)
    simp -implicitDefEqProofs (maxSteps := 1000000) (disch := omega) only [↓xsP, ↓vc_seq, xsQ, xsT, xsR, xsD, ↓reduceIte, reduceCtorEq, eq_self, ne_eq, imp_self, forall_const, Nat.reduceEqDiff, Nat.reduceAdd, Nat.reduceSub, Nat.reduceMul, Nat.reduceLT, Nat.reduceLeDiff, Nat.reduceBEq, Nat.reduceDiv, Nat.reduceMod, Int.reduceToNat, Int.reduceNeg, Int.reduceAdd, Int.reduceSub, Int.reduceMul, Int.reduceEq, Int.reduceNe, Int.reduceLT, Int.reduceLE, Int.reduceGT, Int.reduceGE, q1]
    refine hend ?_
    simp -implicitDefEqProofs (maxSteps := 1000000) (disch := omega) only [↓xsP, ↓vc_seq, xsQ, xsT, xsR, xsD, ↓reduceIte, reduceCtorEq, eq_self, ne_eq, imp_self, forall_const, Nat.reduceEqDiff, Nat.reduceAdd, Nat.reduceSub, Nat.reduceMul, Nat.reduceLT, Nat.reduceLeDiff, Nat.reduceBEq, Nat.reduceDiv, Nat.reduceMod, Int.reduceToNat, Int.reduceNeg, Int.reduceAdd, Int.reduceSub, Int.reduceMul, Int.reduceEq, Int.reduceNe, Int.reduceLT, Int.reduceLE, Int.reduceGT, Int.reduceGE]
    exact fin_ok (Mem.le_refl _) ⟨rfl, rfl⟩
  have q1 : decide ((b.length : Int) > 20) = false := decide_eq_false (by omega)
  simp -implicitDefEqProofs (maxSteps := 1000000) (disch := omega) only [↓xsP, ↓vc_seq, xsQ, xsT, xsR, xsD, ↓reduceIte, reduceCtorEq, eq_self, ne_eq, imp_self, forall_const, Nat.reduceEqDiff, Nat.reduceAdd, Nat.reduceSub, Nat.reduceMul, Nat.reduceLT, Nat.reduceLeDiff, Nat.reduceBEq, Nat.reduceDiv, Nat.reduceMod, Int.reduceToNat, Int.reduceNeg, Int.reduceAdd, Int.reduceSub, Int.reduceMul, Int.reduceEq, Int.reduceNe, Int.reduceLT, Int.reduceLE, Int.reduceGT, Int.reduceGE, q1]
  refine call_of (mayPairs_spec b (by omega) _) ?_
  by_cases hR : Rises b
  rotate_left
  · rw [bof_false hR]
    simp -implicitDefEqProofs (maxSteps := 1000000) (disch := omega) only [↓xsP, ↓vc_seq, xsQ, xsT, xsR, xsD, ↓reduceIte, reduceCtorEq, eq_self, ne_eq, imp_self, forall_const, Nat.reduceEqDiff, Nat.reduceAdd, Nat.reduceSub, Nat.reduceMul, Nat.reduceLT, Nat.reduceLeDiff, Nat.reduceBEq, Nat.reduceDiv, Nat.reduceMod, Int.reduceToNat, Int.reduceNeg, Int.reduceAdd, Int.reduceSub, Int.reduceMul, Int.reduceEq, Int.reduceNe, Int.reduceLT, Int.reduceLE, Int.reduceGT, Int.reduceGE, q1]
    refine hend ?_
    simp -implicitDefEqProofs (maxSteps := 1000000) (disch := omega) only [↓xsP, ↓vc_seq, xsQ, xsT, xsR, xsD, ↓reduceIte, reduceCtorEq, eq_self, ne_eq, imp_self, forall_const, Nat.reduceEqDiff, Nat.reduceAdd, Nat.reduceSub, Nat.reduceMul, Nat.reduceLT, Nat.reduceLeDiff, Nat.reduceBEq, Nat.reduceDiv, Nat.reduceMod, Int.reduceToNat, Int.reduceNeg, Int.reduceAdd, Int.reduceSub, Int.reduceMul, Int.reduceEq, Int.reduceNe, Int.reduceLT, Int.reduceLE, Int.reduceGT, Int.reduceGE]
    exact fin_ok (Mem.le_refl _) ⟨rfl, rfl⟩
  have hasc := (rises_asc b).1 hR
  rw [bof_true hR]
  simp -implicitDefEqProofs (maxSteps := 1000000) (disch := omega) only [↓xsP, ↓vc_seq, xsQ, xsT, xsR, xsD, ↓reduceIte, reduceCtorEq, eq_self, ne_eq, imp_self, forall_const, Nat.reduceEqDiff, Nat.reduceAdd, Nat.reduceSub, Nat.reduceMul, Nat.reduceLT, Nat.reduceLeDiff, Nat.reduceBEq, Nat.reduceDiv, Nat.reduceMod, Int.reduceToNat, Int.reduceNeg, Int.reduceAdd, Int.reduceSub, Int.reduceMul, Int.reduceEq, Int.reduceNe, Int.reduceLT, Int.reduceLE, Int.reduceGT, Int.reduceGE, q1]
  by_cases h3 : ops.length ≤ 6
  rotate_left
  · have q3 : decide ((ops.length : Int) > 6) = true := decide_eq_true (by omega)
    simp -implicitDefEqProofs (maxSteps := 1000000) (disch := omega) only [↓xsP, ↓vc_seq, xsQ, xsT, xsR, xsD, ↓reduceIte, reduceCtorEq, eq_self, ne_eq, imp_self, forall_const, Nat.reduceEqDiff, Nat.reduceAdd, Nat.reduceSub, Nat.reduceMul, Nat.reduceLT, Nat.reduceLeDiff, Nat.reduceBEq, Nat.reduceDiv, Nat.reduceMod, Int.reduceToNat, Int.reduceNeg, Int.reduceAdd, Int.reduceSub, Int.reduceMul, Int.reduceEq, Int.reduceNe, Int.reduceLT, Int.reduceLE, Int.reduceGT, Int.reduceGE, q1, q3]
    refine hend ?_
    simp -implicitDefEqProofs (maxSteps := 1000000) (disch := omega) only [↓xsP, ↓vc_seq, xsQ, xsT, xsR, xsD, ↓reduceIte, reduceCtorEq, eq_self, ne_eq, imp_self, forall_const, Nat.reduceEqDiff, Nat.reduceAdd, Nat.reduceSub, Nat.reduceMul, Nat.reduceLT, Nat.reduceLeDiff, Nat.reduceBEq, Nat.reduceDiv, Nat.reduceMod, Int.reduceToNat, Int.reduceNeg, Int.reduceAdd, Int.reduceSub, Int.reduceMul, Int.reduceEq, Int.reduceNe, Int.reduceLT, Int.reduceLE, Int.reduceGT, Int.reduceGE]
    exact fin_ok (Mem.le_refl _) ⟨rfl, rfl⟩
  have q3 : decide ((ops.length : Int) > 6) = false := decide_eq_false (by omega)
  simp -implicitDefEqProofs (maxSteps := 1000000) (disch := omega) only [↓xsP, ↓vc_seq, xsQ, xsT, xsR, xsD, ↓reduceIte, reduceCtorEq, eq_self, ne_eq, imp_self, forall_const, Nat.reduceEqDiff, Nat.reduceAdd, Nat.reduceSub, Nat.reduceMul, Nat.reduceLT, Nat.reduceLeDiff, Nat.reduceBEq, Nat.reduceDiv, Nat.reduceMod, Int.reduceToNat, Int.reduceNeg, Int.reduceAdd, Int.reduceSub, Int.reduceMul, Int.reduceEq, Int.reduceNe, Int.reduceLT, Int.reduceLE, Int.reduceGT, Int.reduceGE, q1, q3]
  refine newI_intro fun pb hpb => ?_
  simp -implicitDefEqProofs (maxSteps := 1000000) (disch := omega) only [↓xsP, ↓vc_seq, xsQ, xsT, xsR, xsD, ↓reduceIte, reduceCtorEq, eq_self, ne_eq, imp_self, forall_const, Nat.reduceEqDiff, Nat.reduceAdd, Nat.reduceSub, Nat.reduceMul, Nat.reduceLT, Nat.reduceLeDiff, Nat.reduceBEq, Nat.reduceDiv, Nat.reduceMod, Int.reduceToNat, Int.reduceNeg, Int.reduceAdd, Int.reduceSub, Int.reduceMul, Int.reduceEq, Int.reduceNe, Int.reduceLT, Int.reduceLE, Int.reduceGT, Int.reduceGE, q1, q3]
  refine app_mk2 ti_22 rfl ti_32 (by kernel_rfl) (by decide) (by decide) (rowsP' b) hpb (by simp; omega) (fun idA N hidA hNA hMN => ?_)
  simp -implicitDefEqProofs (maxSteps := 1000000) (disch := omega) only [↓xsP, ↓vc_seq, xsQ, xsT, xsR, xsD, ↓reduceIte, reduceCtorEq, eq_self, ne_eq, imp_self, forall_const, Nat.reduceEqDiff, Nat.reduceAdd, Nat.reduceSub, Nat.reduceMul, Nat.reduceLT, Nat.reduceLeDiff, Nat.reduceBEq, Nat.reduceDiv, Nat.reduceMod, Int.reduceToNat, Int.reduceNeg, Int.reduceAdd, Int.reduceSub, Int.reduceMul, Int.reduceEq, Int.reduceNe, Int.reduceLT, Int.reduceLE, Int.reduceGT, Int.reduceGE, q1, q3]
  obtain ⟨B, eB, hBA, hMB⟩ : ∃ B, B = N.set idA (.cells 32 (b.map Pr.row) (max 0 (b.map Pr.row).length)) ∧ B idA = some (.cells 32 (b.map Pr.row) (max 0 (b.map Pr.row).length)) ∧ M.le B := ⟨_, rfl, Mem.set_eq _ _ _, fun k bk hk => by
    have := lt_of_bnd hidA hk
    rw [Mem.set_ne _ _ _ _ (by omega)]
    exact hMN _ _ hk⟩
  refine loopI_gs (GStep.frz hNA) ?_
  rw [← eB]
  have hIs : IsK B (.ms idA 0 (b.map Pr.row).length) b := .inr ⟨idA, _, hBA, by simp, by simp⟩
  refine xloop (by kernel_rfl) (fun k fr M2 => ∃ (i : Nat) (xm xh xr : Lf), i ≤ ops.length ∧ k = ops.length - i ∧ fr 0 = .l (.sl (b.map Pr.row)) ∧ fr 1 = .l (.sl (ops.map Opn.row)) ∧ fr 5 = .l xm ∧ fr 6 = .l xh ∧ fr 7 = .l xr ∧ fr 32 = .l (.sl (ops.map Opn.row)) ∧ fr 33 = .l (.int .i64 ops.length) ∧ fr 34 = .l (.int .i64 i) ∧ IsK B xm (runL b (ops.take i)) ∧ TwoB B M2 xh (onceE ops.length 0 (toldL b (ops.take i))) xr (onceR ops.length 0 (toldL b (ops.take i))) ∧ ∀ o ∈ ops.take i, mayOpB o = true) ops.length ?_ ?_
  · exact ⟨0, _, .nils, .nils, Nat.zero_le _, rfl, by simp -implicitDefEqProofs (maxSteps := 1000000) (disch := omega) only [↓xsP, ↓vc_seq, xsQ, xsT, xsR, xsD, ↓reduceIte, reduceCtorEq, eq_self, ne_eq, imp_self, forall_const, Nat.reduceEqDiff, Nat.reduceAdd, Nat.reduceSub, Nat.reduceMul, Nat.reduceLT, Nat.reduceLeDiff, Nat.reduceBEq, Nat.reduceDiv, Nat.reduceMod, Int.reduceToNat, Int.reduceNeg, Int.reduceAdd, Int.reduceSub, Int.reduceMul, Int.reduceEq, Int.reduceNe, Int.reduceLT, Int.reduceLE, Int.reduceGT, Int.reduceGE], by simp -implicitDefEqProofs (maxSteps := 1000000) (disch := omega) only [↓xsP, ↓vc_seq, xsQ, xsT, xsR, xsD, ↓reduceIte, reduceCtorEq, eq_self, ne_eq, imp_self, forall_const, Nat.reduceEqDiff, Nat.reduceAdd, Nat.reduceSub, Nat.reduceMul, Nat.reduceLT, Nat.reduceLeDiff, Nat.reduceBEq, Nat.reduceDiv, Nat.reduceMod, Int.reduceToNat, Int.reduceNeg, Int.reduceAdd, Int.reduceSub, Int.reduceMul, Int.reduceEq, Int.reduceNe, Int.reduceLT, Int.reduceLE, Int.reduceGT, Int.reduceGE], by simp -implicitDefEqProofs (maxSteps := 1000000) (disch := omega) only [↓xsP, ↓vc_seq, xsQ, xsT, xsR, xsD, ↓reduceIte, reduceCtorEq, eq_self, ne_eq, imp_self, forall_const, Nat.reduceEqDiff, Nat.reduceAdd, Nat.reduceSub, Nat.reduceMul, Nat.reduceLT, Nat.reduceLeDiff, Nat.reduceBEq, Nat.reduceDiv, Nat.reduceMod, Int.reduceToNat, Int.reduceNeg, Int.reduceAdd, Int.reduceSub, Int.reduceMul, Int.reduceEq, Int.reduceNe, Int.reduceLT, Int.reduceLE, Int.reduceGT, Int.reduceGE], by simp -implicitDefEqProofs (maxSteps := 1000000) (disch := omega) only [↓xsP, ↓vc_seq, xsQ, xsT, xsR, xsD, ↓reduceIte, reduceCtorEq, eq_self, ne_eq, imp_self, forall_const, Nat.reduceEqDiff, Nat.reduceAdd, Nat.reduceSub, Nat.reduceMul, Nat.reduceLT, Nat.reduceLeDiff, Nat.reduceBEq, Nat.reduceDiv, Nat.reduceMod, Int.reduceToNat, Int.reduceNeg, Int.reduceAdd, Int.reduceSub, Int.reduceMul, Int.reduceEq, Int.reduceNe, Int.reduceLT, Int.reduceLE, Int.reduceGT, Int.reduceGE], by simp -implicitDefEqProofs (maxSteps := 1000000) (disch := omega) only [↓xsP, ↓vc_seq, xsQ, xsT, xsR, xsD, ↓reduceIte, reduceCtorEq, eq_self, ne_eq, imp_self, forall_const, Nat.reduceEqDiff, Nat.reduceAdd, Nat.reduceSub, Nat.reduceMul, Nat.reduceLT, Nat.reduceLeDiff, Nat.reduceBEq, Nat.reduceDiv, Nat.reduceMod, Int.reduceToNat, Int.reduceNeg, Int.reduceAdd, Int.reduceSub, Int.reduceMul, Int.reduceEq, Int.reduceNe, Int.reduceLT, Int.reduceLE, Int.reduceGT, Int.reduceGE], by simp -implicitDefEqProofs (maxSteps := 1000000) (disch := omega) only [↓xsP, ↓vc_seq, xsQ, xsT, xsR, xsD, ↓reduceIte, reduceCtorEq, eq_self, ne_eq, imp_self, forall_const, Nat.reduceEqDiff, Nat.reduceAdd, Nat.reduceSub, Nat.reduceMul, Nat.reduceLT, Nat.reduceLeDiff, Nat.reduceBEq, Nat.reduceDiv, Nat.reduceMod, Int.reduceToNat, Int.reduceNeg, Int.reduceAdd, Int.reduceSub, Int.reduceMul, Int.reduceEq, Int.reduceNe, Int.reduceLT, Int.reduceLE, Int.reduceGT, Int.reduceGE], by simp -implicitDefEqProofs (maxSteps := 1000000) (disch := omega) only [↓xsP, ↓vc_seq, xsQ, xsT, xsR, xsD, ↓reduceIte, reduceCtorEq, eq_self, ne_eq, imp_self, forall_const, Nat.reduceEqDiff, Nat.reduceAdd, Nat.reduceSub, Nat.reduceMul, Nat.reduceLT, Nat.reduceLeDiff, Nat.reduceBEq, Nat.reduceDiv, Nat.reduceMod, Int.reduceToNat, Int.reduceNeg, Int.reduceAdd, Int.reduceSub, Int.reduceMul, Int.reduceEq, Int.reduceNe, Int.reduceLT, Int.reduceLE, Int.reduceGT, Int.reduceGE], by simp -implicitDefEqProofs (maxSteps := 1000000) (disch := omega) only [↓xsP, ↓vc_seq, xsQ, xsT, xsR, xsD, ↓reduceIte, reduceCtorEq, eq_self, ne_eq, imp_self, forall_const, Nat.reduceEqDiff, Nat.reduceAdd, Nat.reduceSub, Nat.reduceMul, Nat.reduceLT, Nat.reduceLeDiff, Nat.reduceBEq, Nat.reduceDiv, Nat.reduceMod, Int.reduceToNat, Int.reduceNeg, Int.reduceAdd, Int.reduceSub, Int.reduceMul, Int.reduceEq, Int.reduceNe, Int.reduceLT, Int.reduceLE, Int.reduceGT, Int.reduceGE, Int.cast_ofNat_Int], hIs, ⟨B, ⟨Mem.le_refl _, .inl ⟨rfl, rfl⟩⟩, ⟨Mem.le_refl _, .inl ⟨rfl, rfl⟩⟩⟩, fun o ho => by rw [List.take_zero] at ho; cases ho⟩
  rintro k fr M2 ⟨i, xm, xh, xr, hi, rfl, f0, f1, f5, f6, f7, f32, f33, f34, hK, I, hmo⟩
  simp -implicitDefEqProofs (maxSteps := 1000000) (disch := omega) only [↓xsP, ↓vc_seq, xsQ, xsT, xsR, xsD, ↓reduceIte, reduceCtorEq, eq_self, ne_eq, imp_self, forall_const, Nat.reduceEqDiff, Nat.reduceAdd, Nat.reduceSub, Nat.reduceMul, Nat.reduceLT, Nat.reduceLeDiff, Nat.reduceBEq, Nat.reduceDiv, Nat.reduceMod, Int.reduceToNat, Int.reduceNeg, Int.reduceAdd, Int.reduceSub, Int.reduceMul, Int.reduceEq, Int.reduceNe, Int.reduceLT, Int.reduceLE, Int.reduceGT, Int.reduceGE, f0, f1, f5, f6, f7, f32, f33, f34]
  refine condI_prop (fun hlt => ?_) (fun hlt => ?_)
  · have hin : i < ops.length := by omega
    obtain ⟨o, ho⟩ : ∃ o, ops.getD i default = o := ⟨_, rfl⟩
    simp -implicitDefEqProofs (maxSteps := 1000000) (disch := omega) only [↓xsP, ↓vc_seq, xsQ, xsT, xsR, xsD, ↓reduceIte, reduceCtorEq, eq_self, ne_eq, imp_self, forall_const, Nat.reduceEqDiff, Nat.reduceAdd, Nat.reduceSub, Nat.reduceMul, Nat.reduceLT, Nat.reduceLeDiff, Nat.reduceBEq, Nat.reduceDiv, Nat.reduceMod, Int.reduceToNat, Int.reduceNeg, Int.reduceAdd, Int.reduceSub, Int.reduceMul, Int.reduceEq, Int.reduceNe, Int.reduceLT, Int.reduceLE, Int.reduceGT, Int.reduceGE, f0, f1, f5, f6, f7, f32, f33, f34, ho]
    refine newI_intro fun id11 hid11 => ?_
    simp -implicitDefEqProofs (maxSteps := 1000000) (disch := omega) only [↓xsP, ↓vc_seq, xsQ, xsT, xsR, xsD, ↓reduceIte, reduceCtorEq, eq_self, ne_eq, imp_self, forall_const, Nat.reduceEqDiff, Nat.reduceAdd, Nat.reduceSub, Nat.reduceMul, Nat.reduceLT, Nat.reduceLeDiff, Nat.reduceBEq, Nat.reduceDiv, Nat.reduceMod, Int.reduceToNat, Int.reduceNeg, Int.reduceAdd, Int.reduceSub, Int.reduceMul, Int.reduceEq, Int.reduceNe, Int.reduceLT, Int.reduceLE, Int.reduceGT, Int.reduceGE, f0, f1, f5, f6, f7, f32, f33, f34, ho]
    have hsl := runL_len b (ops.take i)
    rw [List.length_take] at hsl
    have htl : (ops.take i).length = i := by rw [List.length_take]; omega
    have htk := toldL_take b ops hin
    have hrt : runL b (ops.take (i + 1)) = doL (runL b (ops.take i)) o := by rw [take_sc ops default hin, runL_snoc, ho]
    obtain ⟨s, hs⟩ : ∃ s, runL b (ops.take i) = s := ⟨_, rfl⟩
    rw [ho, hs] at htk
    rw [hs] at hK hsl hrt
    obtain ⟨N1, eN1, h11, hMN1, I1⟩ : ∃ N1, N1 = M2.set id11 (.cells 25 [[.int .i64 o.kind, .int .i64 o.key, .int .i64 o.to, .int .i64 o.val]] 0) ∧ N1 id11 = some (.cells 25 [[.int .i64 o.kind, .int .i64 o.key, .int .i64 o.to, .int .i64 o.val]] 0) ∧ M2.le N1 ∧ TwoB (B.set id11 (.cells 25 [[.int .i64 o.kind, .int .i64 o.key, .int .i64 o.to, .int .i64 o.val]] 0)) N1 xh (onceE ops.length 0 (toldL b (ops.take i))) xr (onceR ops.length 0 (toldL b (ops.take i))) := ⟨_, rfl, Mem.set_eq _ _ _, le_new (Mem.le_refl _) hid11, I.up (hid11 _ (Nat.le_refl _))⟩
    have hB11 : B id11 = none := by
      cases hA : B id11 with
      | none => rfl
      | some bk => have := hid11 _ (Nat.le_refl _); rw [I.le _ _ hA] at this; cases this
    have hBB : B.le (B.set id11 (.cells 25 [[.int .i64 o.kind, .int .i64 o.key, .int .i64 o.to, .int .i64 o.val]] 0)) := fun k bk hk => by
      rw [Mem.set_ne _ _ _ _ (fun e => by rw [← e, hB11] at hk; cases hk)]
      exact hk
    rw [← eN1]
    refine call_of (mayOpR_spec o _) ?_
    cases hmm : mayOpB o with
    | false =>
      simp -implicitDefEqProofs (maxSteps := 1000000) (disch := omega) only [↓xsP, ↓vc_seq, xsQ, xsT, xsR, xsD, ↓reduceIte, reduceCtorEq, eq_self, ne_eq, imp_self, forall_const, Nat.reduceEqDiff, Nat.reduceAdd, Nat.reduceSub, Nat.reduceMul, Nat.reduceLT, Nat.reduceLeDiff, Nat.reduceBEq, Nat.reduceDiv, Nat.reduceMod, Int.reduceToNat, Int.reduceNeg, Int.reduceAdd, Int.reduceSub, Int.reduceMul, Int.reduceEq, Int.reduceNe, Int.reduceLT, Int.reduceLE, Int.reduceGT, Int.reduceGE, f0, f1, f5, f6, f7, f32, f33, f34]
      refine call_of (awake20_spec _) ?_
      simp -implicitDefEqProofs (maxSteps := 1000000) (disch := omega) only [↓xsP, ↓vc_seq, xsQ, xsT, xsR, xsD, ↓reduceIte, reduceCtorEq, eq_self, ne_eq, imp_self, forall_const, Nat.reduceEqDiff, Nat.reduceAdd, Nat.reduceSub, Nat.reduceMul, Nat.reduceLT, Nat.reduceLeDiff, Nat.reduceBEq, Nat.reduceDiv, Nat.reduceMod, Int.reduceToNat, Int.reduceNeg, Int.reduceAdd, Int.reduceSub, Int.reduceMul, Int.reduceEq, Int.reduceNe, Int.reduceLT, Int.reduceLE, Int.reduceGT, Int.reduceGE]
      exact fin_ok (fun k bk hk => I1.le _ _ (hBB _ _ (hMB _ _ hk))) ⟨rfl, rfl⟩
    | true =>
    simp -implicitDefEqProofs (maxSteps := 1000000) (disch := omega) only [↓xsP, ↓vc_seq, xsQ, xsT, xsR, xsD, ↓reduceIte, reduceCtorEq, eq_self, ne_eq, imp_self, forall_const, Nat.reduceEqDiff, Nat.reduceAdd, Nat.reduceSub, Nat.reduceMul, Nat.reduceLT, Nat.reduceLeDiff, Nat.reduceBEq, Nat.reduceDiv, Nat.reduceMod, Int.reduceToNat, Int.reduceNeg, Int.reduceAdd, Int.reduceSub, Int.reduceMul, Int.reduceEq, Int.reduceNe, Int.reduceLT, Int.reduceLE, Int.reduceGT, Int.reduceGE, f0, f1, f5, f6, f7, f32, f33, f34, h11]
    refine callI_of ((doR_isK ((hK.le hBB).le I1.le) (by omega) o).mono ?_)
    rintro _ N1 ⟨rfl, rfl⟩
    have hdl := doA_lenO s o
    obtain ⟨a, ha⟩ : ∃ a, doA s o = a := ⟨_, rfl⟩
    rw [ha] at hdl htk
    have hth : (ops.length : Int) - 1 - ((0 + (toldL b (ops.take i)).length : Nat) : Int) = (ops.length : Int) - 1 - i := by rw [toldL_len, htl, Nat.zero_add]
    simp -implicitDefEqProofs (maxSteps := 1000000) (disch := omega) only [↓xsP, ↓vc_seq, xsQ, xsT, xsR, xsD, ↓reduceIte, reduceCtorEq, eq_self, ne_eq, imp_self, forall_const, Nat.reduceEqDiff, Nat.reduceAdd, Nat.reduceSub, Nat.reduceMul, Nat.reduceLT, Nat.reduceLeDiff, Nat.reduceBEq, Nat.reduceDiv, Nat.reduceMod, Int.reduceToNat, Int.reduceNeg, Int.reduceAdd, Int.reduceSub, Int.reduceMul, Int.reduceEq, Int.reduceNe, Int.reduceLT, Int.reduceLE, Int.reduceGT, Int.reduceGE, f0, f1, f5, f6, f7, f32, f33, f34, h11, ha]
    refine newI_intro fun id13 hid13 => ?_
    have k13 := lt_of_bnd hid13 h11
    simp -implicitDefEqProofs (maxSteps := 1000000) (disch := omega) only [↓xsP, ↓vc_seq, xsQ, xsT, xsR, xsD, ↓reduceIte, reduceCtorEq, eq_self, ne_eq, imp_self, forall_const, Nat.reduceEqDiff, Nat.reduceAdd, Nat.reduceSub, Nat.reduceMul, Nat.reduceLT, Nat.reduceLeDiff, Nat.reduceBEq, Nat.reduceDiv, Nat.reduceMod, Int.reduceToNat, Int.reduceNeg, Int.reduceAdd, Int.reduceSub, Int.reduceMul, Int.reduceEq, Int.reduceNe, Int.reduceLT, Int.reduceLE, Int.reduceGT, Int.reduceGE, f0, f1, f5, f6, f7, f32, f33, f34, h11, ha]
    refine newI_intro fun ids hids => ?_
    simp -implicitDefEqProofs (maxSteps := 1000000) (disch := omega) only [↓xsP, ↓vc_seq, xsQ, xsT, xsR, xsD, ↓reduceIte, reduceCtorEq, eq_self, ne_eq, imp_self, forall_const, Nat.reduceEqDiff, Nat.reduceAdd, Nat.reduceSub, Nat.reduceMul, Nat.reduceLT, Nat.reduceLeDiff, Nat.reduceBEq, Nat.reduceDiv, Nat.reduceMod, Int.reduceToNat, Int.reduceNeg, Int.reduceAdd, Int.reduceSub, Int.reduceMul, Int.reduceEq, Int.reduceNe, Int.reduceLT, Int.reduceLE, Int.reduceGT, Int.reduceGE, f0, f1, f5, f6, f7, f32, f33, f34, h11, ha]
    obtain ⟨B2, eB2⟩ : ∃ B2, B2 = (B.set id11 (.cells 25 [[.int .i64 o.kind, .int .i64 o.key, .int .i64 o.to, .int .i64 o.val]] 0)).set id13 (.cells 34 [[.int .i64 a.err, .bool a.ok, .int .i64 a.pair.key, .int .i64 a.pair.val, .int .i64 a.n, .sl (a.pairs.map Pr.row)]] 0) := ⟨_, rfl⟩
    have I2 := I1.up (X := .cells 34 [[.int .i64 a.err, .bool a.ok, .int .i64 a.pair.key, .int .i64 a.pair.val, .int .i64 a.n, .sl (a.pairs.map Pr.row)]] 0) (hid13 _ (Nat.le_refl _))
    rw [← eB2] at I2
    have hB21 : B2 id11 = some (.cells 25 [[.int .i64 o.kind, .int .i64 o.key, .int .i64 o.to, .int .i64 o.val]] 0) := by rw [eB2, Mem.set_ne _ _ _ _ (by omega), Mem.set_eq]
    have hB23 : B2 id13 = some (.cells 34 [[.int .i64 a.err, .bool a.ok, .int .i64 a.pair.key, .int .i64 a.pair.val, .int .i64 a.n, .sl (a.pairs.map Pr.row)]] 0) := by rw [eB2, Mem.set_eq]
    have hBB2 : B.le B2 := fun k bk hk => by
      have h' := lt_of_bnd hid13 (I1.le _ _ (hBB _ _ hk))
      rw [eB2, Mem.set_ne _ _ _ _ (by omega)]
      exact hBB _ _ hk
    clear eB2
    refine app_two I2 hids _ [⟨(ops.length : Int) - 1 - i, false, o, ans0⟩] (by simp [wkL, Evt.row, ans0]) (by simp) (by rw [onceE_len, toldL_len, htl]; simp; omega) rfl fun x' N' I3 => ?_
    have g1 := I3.le _ _ hB21
    have g3 := I3.le _ _ hB23
    simp -implicitDefEqProofs (maxSteps := 1000000) (disch := omega) only [↓xsP, ↓vc_seq, xsQ, xsT, xsR, xsD, ↓reduceIte, reduceCtorEq, eq_self, ne_eq, imp_self, forall_const, Nat.reduceEqDiff, Nat.reduceAdd, Nat.reduceSub, Nat.reduceMul, Nat.reduceLT, Nat.reduceLeDiff, Nat.reduceBEq, Nat.reduceDiv, Nat.reduceMod, Int.reduceToNat, Int.reduceNeg, Int.reduceAdd, Int.reduceSub, Int.reduceMul, Int.reduceEq, Int.reduceNe, Int.reduceLT, Int.reduceLE, Int.reduceGT, Int.reduceGE, f0, f1, f5, f6, f7, f32, f33, f34, g1, g3]
    refine newI_intro fun idt hidt => ?_
    simp -implicitDefEqProofs (maxSteps := 1000000) (disch := omega) only [↓xsP, ↓vc_seq, xsQ, xsT, xsR, xsD, ↓reduceIte, reduceCtorEq, eq_self, ne_eq, imp_self, forall_const, Nat.reduceEqDiff, Nat.reduceAdd, Nat.reduceSub, Nat.reduceMul, Nat.reduceLT, Nat.reduceLeDiff, Nat.reduceBEq, Nat.reduceDiv, Nat.reduceMod, Int.reduceToNat, Int.reduceNeg, Int.reduceAdd, Int.reduceSub, Int.reduceMul, Int.reduceEq, Int.reduceNe, Int.reduceLT, Int.reduceLE, Int.reduceGT, Int.reduceGE, f0, f1, f5, f6, f7, f32, f33, f34, g1, g3]
    refine pre_two I3 hidt _ ⟨(ops.length : Int) - 1 - i, true, o, a⟩ (by simp [wkL, Evt.row]) (by rw [onceR_len, toldL_len, htl]; omega) fun x'' N'' I4 => ?_
    simp -implicitDefEqProofs (maxSteps := 1000000) (disch := omega) only [↓xsP, ↓vc_seq, xsQ, xsT, xsR, xsD, ↓reduceIte, reduceCtorEq, eq_self, ne_eq, imp_self, forall_const, Nat.reduceEqDiff, Nat.reduceAdd, Nat.reduceSub, Nat.reduceMul, Nat.reduceLT, Nat.reduceLeDiff, Nat.reduceBEq, Nat.reduceDiv, Nat.reduceMod, Int.reduceToNat, Int.reduceNeg, Int.reduceAdd, Int.reduceSub, Int.reduceMul, Int.reduceEq, Int.reduceNe, Int.reduceLT, Int.reduceLE, Int.reduceGT, Int.reduceGE, f0, f1, f5, f6, f7, f32, f33, f34, g1, g3]
    refine ⟨ops.length - (i + 1), N'', by omega, Mem.le_refl _, i + 1, _, x', x'', by omega, rfl, rfl, rfl, rfl, by simp, ?_, ?_, fun o' ho' => ?_⟩
    · rw [hrt]
      exact IsK.sl _ _
    · rw [htk, onceE_snoc, onceR_snoc, hth]
      exact I4.down hBB2
    · rw [take_sc ops default hin, ho] at ho'
      rcases List.mem_append.1 ho' with ho' | ho'
      · exact hmo o' ho'
      · rw [List.mem_singleton.1 ho']
        exact hmm
  · have hin : i = ops.length := by omega
    subst hin
    rw [List.take_of_length_le (Nat.le_refl _)] at hmo I
    simp -implicitDefEqProofs (maxSteps := 1000000) (disch := omega) only [↓xsP, ↓vc_seq, xsQ, xsT, xsR, xsD, ↓reduceIte, reduceCtorEq, eq_self, ne_eq, imp_self, forall_const, Nat.reduceEqDiff, Nat.reduceAdd, Nat.reduceSub, Nat.reduceMul, Nat.reduceLT, Nat.reduceLeDiff, Nat.reduceBEq, Nat.reduceDiv, Nat.reduceMod, Int.reduceToNat, Int.reduceNeg, Int.reduceAdd, Int.reduceSub, Int.reduceMul, Int.reduceEq, Int.reduceNe, Int.reduceLT, Int.reduceLE, Int.reduceGT, Int.reduceGE, f0, f1, f5, f6, f7, f32, f33, f34]
    obtain ⟨h1', h2', h3'⟩ := told_ok (b := b) (ops := ops) hasc (by omega) (by omega) hmo
    have hLl := toldL_len b ops
    have htold := toldL_told b ops
    have hints : ∀ x ∈ toldL b ops, IntOk' x.1.key ∧ IntOk' x.1.val := fun x hx => by
      obtain ⟨j, hj, rfl⟩ := toldL_mem hx
      exact hoi _ (getD_mem' ops default hj)
    refine join_two I (by rw [onceE_len, onceR_len, hLl]; omega) fun x' N' I' => ?_
    simp -implicitDefEqProofs (maxSteps := 1000000) (disch := omega) only [↓xsP, ↓vc_seq, xsQ, xsT, xsR, xsD, ↓reduceIte, reduceCtorEq, eq_self, ne_eq, imp_self, forall_const, Nat.reduceEqDiff, Nat.reduceAdd, Nat.reduceSub, Nat.reduceMul, Nat.reduceLT, Nat.reduceLeDiff, Nat.reduceBEq, Nat.reduceDiv, Nat.reduceMod, Int.reduceToNat, Int.reduceNeg, Int.reduceAdd, Int.reduceSub, Int.reduceMul, Int.reduceEq, Int.reduceNe, Int.reduceLT, Int.reduceLE, Int.reduceGT, Int.reduceGE, f0, f1, f5, f6, f7, f32, f33, f34]
    rw [← hLl] at I'
    have hmem : ∀ {P : Evt → Prop}, (∀ x ∈ toldL b ops, ∀ t : Int, P ⟨t, false, x.1, ans0⟩ ∧ P ⟨t, true, x.1, x.2⟩) → ∀ e ∈ onceE (toldL b ops).length 0 (toldL b ops) ++ onceR (toldL b ops).length 0 (toldL b ops), P e := fun {P} h e he => by
      obtain ⟨g1, g2⟩ := once_mem (P := P) ((toldL b ops).length : Int) (i := 0) h
      rcases List.mem_append.1 he with he | he
      · exact g1 e he
      · exact g2 e he
    have hsm : Small (onceE (toldL b ops).length 0 (toldL b ops) ++ onceR (toldL b ops).length 0 (toldL b ops)) :=
      ⟨by rw [List.length_append, onceE_len, onceR_len, hLl]; omega, hmem (P := fun e => e.ans.pairs.length ≤ 1000000) fun x hx t => ⟨Nat.zero_le _, by have := h3' x hx; show x.2.pairs.length ≤ 1000000; omega⟩⟩
    have hoo : OpsOk (callsP (onceE (toldL b ops).length 0 (toldL b ops) ++ onceR (toldL b ops).length 0 (toldL b ops))) := ops_ok (hmem (P := fun e => IntOk' e.op.key ∧ IntOk' e.op.val) fun x hx t => ⟨hints x hx, hints x hx⟩)
    have hcl : (callsP (onceE (toldL b ops).length 0 (toldL b ops) ++ onceR (toldL b ops).length 0 (toldL b ops))).length = ops.length := by rw [callsP_once (by omega) h1', onceC_len, hLl]
    obtain ⟨M3, hG, I3, hRd, hkept⟩ := I'.rd
    refine callI_gs hG (callI_of (XCalls.mono (XCalls.rd (.cons (.inl ⟨rfl, Fast.sl _⟩) (.cons (.inr ⟨_, _, rfl, rfl, hRd⟩) .nil)) (lfind_spec b _ (by omega) hbi hsm hoo M3)) ?_))
    rintro _ M3 ⟨rfl, l, ok, e, hF, rfl⟩
    have hright := right_once hR (by omega) h1' h2' htold
    obtain rfl := found_of hF (by omega) hright
    obtain ⟨-, rfl, -⟩ := found_right hF
    simp -implicitDefEqProofs (maxSteps := 1000000) (disch := omega) only [↓xsP, ↓vc_seq, xsQ, xsT, xsR, xsD, ↓reduceIte, reduceCtorEq, eq_self, ne_eq, imp_self, forall_const, Nat.reduceEqDiff, Nat.reduceAdd, Nat.reduceSub, Nat.reduceMul, Nat.reduceLT, Nat.reduceLeDiff, Nat.reduceBEq, Nat.reduceDiv, Nat.reduceMod, Int.reduceToNat, Int.reduceNeg, Int.reduceAdd, Int.reduceSub, Int.reduceMul, Int.reduceEq, Int.reduceNe, Int.reduceLT, Int.reduceLE, Int.reduceGT, Int.reduceGE, f0, f1, f5, f6, f7, f32, f33, f34]
    refine call_of (awake20_spec _) ?_
    simp -implicitDefEqProofs (maxSteps := 1000000) (disch := omega) only [↓xsP, ↓vc_seq, xsQ, xsT, xsR, xsD, ↓reduceIte, reduceCtorEq, eq_self, ne_eq, imp_self, forall_const, Nat.reduceEqDiff, Nat.reduceAdd, Nat.reduceSub, Nat.reduceMul, Nat.reduceLT, Nat.reduceLeDiff, Nat.reduceBEq, Nat.reduceDiv, Nat.reduceMod, Int.reduceToNat, Int.reduceNeg, Int.reduceAdd, Int.reduceSub, Int.reduceMul, Int.reduceEq, Int.reduceNe, Int.reduceLT, Int.reduceLE, Int.reduceGT, Int.reduceGE]
    exact fin_ok (fun k bk hk => I3.le _ _ (hMB _ _ hk)) ⟨rfl, rfl⟩
end Go.X
