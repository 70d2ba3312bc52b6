/- Plain laws of orders. -/
import Derived.Test.YtjhpfaiiknpnmaaZ5
set_option linter.unusedVariables false
set_option linter.unusedSimpArgs false
set_option maxRecDepth 100000
namespace Go.X

theorem goesO_app {C : List Cl} : ∀ (A R : List Int) (s : List Pr), goesO C (A ++ R) s = (goesO C A s).bind (goesO C R)
  | [], R, s => rfl
  | i :: A, R, s => by
    rw [List.cons_append, goesO, goesO]
    split
    · rfl
    · exact goesO_app A R _
theorem timely_pw (C : List Cl) (l : List Int) : timelyB C l = bof (l.Pairwise fun i j => ¬ befP (clAt C j) (clAt C i)) := by
  rw [timelyB]
  refine bof_congr ?_
  rw [List.pairwise_iff_getElem]
  constructor
  · intro h i j hi hj hij
    have := h i j hij hj
    simpa [List.getD_eq_getElem?_getD, hi, hj] using this
  · intro h a b hab hb
    have := h a b (by omega) hb hab
    simpa [List.getD_eq_getElem?_getD, show a < l.length by omega, hb] using this
theorem named_perm {C : List Cl} {l m : List Int} (h : l.Perm m) : namedB C l = namedB C m := by
  rw [namedB, namedB]
  refine bof_congr ?_
  rw [h.nodup_iff]
  constructor
  · rintro ⟨h1, h2, h3⟩
    exact ⟨fun x hx => h1 x (h.mem_iff.2 hx), h2, fun j hj h0 => by rw [← h.mem_iff]; exact h3 j hj h0⟩
  · rintro ⟨h1, h2, h3⟩
    exact ⟨fun x hx => h1 x (h.mem_iff.1 hx), h2, fun j hj h0 => by rw [h.mem_iff]; exact h3 j hj h0⟩
/-- Two that only read, side by side, may change places, if the one is not ahead of the other. -/
theorem right_swap {b : List Pr} {h : List Evt} {A R : List Int} {x y : Int} (hr : (rightO b h (A ++ x :: y :: R)).isSome = true) (hx : 3 < (clAt (callsP h) x).op.kind) (hy : 3 < (clAt (callsP h) y).op.kind) :
    (rightO b h (A ++ y :: x :: R)).isSome = !bof (befP (clAt (callsP h) x) (clAt (callsP h) y)) := by
  have hp : (A ++ y :: x :: R).Perm (A ++ x :: y :: R) := (List.Perm.swap x y R).append_left A
  have hg : ∀ s, goesO (callsP h) (y :: x :: R) s = goesO (callsP h) (x :: y :: R) s := fun s => by
    have hx' : ∀ s, doL s (clAt (callsP h) x).op = s := fun s => doL_read hx
    have hy' : ∀ s, doL s (clAt (callsP h) y).op = s := fun s => doL_read hy
    simp only [goesO, hx', hy']
    by_cases c1 : 0 ≤ (clAt (callsP h) x).fin ∧ doA s (clAt (callsP h) x).op ≠ (clAt (callsP h) x).ans
    · simp [c1]
    · simp [c1]
  have hg2 : goesO (callsP h) (A ++ y :: x :: R) (putL b) = goesO (callsP h) (A ++ x :: y :: R) (putL b) := by
    rw [goesO_app, goesO_app]
    congr 1
    funext s
    exact hg s
  rw [rightO] at hr ⊢
  rw [hg2]
  split at hr
  · rename_i hB
    rw [rightB, Bool.and_eq_true, Bool.and_eq_true, Bool.and_eq_true, timely_pw, bof_iff (p := List.Pairwise _ _)] at hB
    obtain ⟨h1, h2, h3, h4⟩ := hB
    rw [rightB, h1, h2, named_perm hp, h3, timely_pw, Bool.true_and, Bool.true_and, Bool.true_and]
    have he : (A ++ y :: x :: R).Pairwise (fun i j => ¬ befP (clAt (callsP h) j) (clAt (callsP h) i)) ↔ ¬ befP (clAt (callsP h) x) (clAt (callsP h) y) := by
      rw [List.pairwise_append, List.pairwise_cons, List.pairwise_cons] at h4
      obtain ⟨a1, ⟨a2, a3, a4⟩, a5⟩ := h4
      constructor
      · intro h5
        rw [List.pairwise_append, List.pairwise_cons] at h5
        exact h5.2.1.1 x (by simp)
      · intro h5
        rw [List.pairwise_append, List.pairwise_cons, List.pairwise_cons]
        refine ⟨a1, ⟨fun j hj => ?_, fun j hj => a2 j (by simp [hj]), a4⟩, fun i hi j hj => a5 i hi j ?_⟩
        · rcases List.mem_cons.1 hj with rfl | hj
          · exact h5
          · exact a3 j hj
        · rcases List.mem_cons.1 hj with rfl | hj
          · simp
          · rcases List.mem_cons.1 hj with rfl | hj
            · simp
            · simp [hj]
    cases hb : bof (befP (clAt (callsP h) x) (clAt (callsP h) y)) with
    | true =>
      rw [bof_false (fun h5 => he.1 h5 (bof_iff.1 hb))]
      rfl
    | false =>
      rw [bof_true (he.2 (bof_not.1 hb)), if_pos rfl, hr]
      rfl
  · cases hr
/-- append to a slice that has just been made, without rows. -/
theorem app_mk2 {e t : TypeId} {ti te : TI} (hti : tiOf Go.Proofs.Try.prog t = some ti) (hd : ti.d = .slice e) (hte : tiOf Go.Proofs.Try.prog e = some te) (hz : zeroFits Go.Proofs.Try.prog e = true) (hsz : 0 < te.size) (hby : te.bytes ≤ 128)
    {N : Mem} {src : List (List Lf)} {pb : Nat} (hr : ∀ r ∈ src, r.length = te.size) (hb : ∀ j, pb ≤ j → N j = none) (hlen : src.length ≤ 1000001) {K : AV → Mem → Prop}
    (hc : ∀ idA N', (∀ j, idA ≤ j → N j = none) → N' idA = some (.cells e src 0) → N.le N' → K (.l (.ms idA 0 src.length)) N') :
    @appI Go.Proofs.Try.prog (N.set pb (.cells e [] 0)) t t (.l (.ms pb 0 0)) (.l (.sl src)) ⟨K⟩ := by
  have hsrc : ∀ X : Mem, srcRows Go.Proofs.Try.prog X t t e te (.l (.sl src)) = some src := fun X => by
    simp only [srcRows, if_true]
    rw [if_pos hr]
  refine app_ms _ _ _ _ e _ _ hti hd hte hz hsz pb 0 _ (rows := []) (keep := 0) src (Mem.set_eq _ _ _) (hsrc _) (Nat.le_refl _) (Nat.zero_le _) ?_ ?_ ?_
  · have h1 : (0 + src.length) * te.bytes ≤ 1000001 * 128 := Nat.mul_le_mul (by omega) hby
    omega
  · omega
  · intro idA hidA
    obtain ⟨hbA, hA⟩ := bnd_new hidA
    have := hc idA (((N.set pb (.cells e [] 0)).del pb).set idA (.cells e src 0)) hA (Mem.set_eq _ _ _) fun k bk hk => by
      have := lt_of_bnd hb hk
      have := lt_of_bnd hA hk
      rw [Mem.set_ne _ _ _ _ (by omega), Mem.del_ne _ _ _ (by omega), Mem.set_ne _ _ _ _ (by omega)]
      exact hk
    simpa using this
theorem swap_list {l : List Int} {k : Nat} {x y : Int} (hk : k + 1 < l.length) (hx : l.getD k default = x) (hy : l.getD (k + 1) default = y) : ∃ A R, l = A ++ x :: y :: R ∧ (l.set k y).set (k + 1) x = A ++ y :: x :: R := by
  have e1 := split_at' l default (i := k) (by omega)
  have e2 : l.drop (k + 1) = y :: l.drop (k + 2) := by
    rw [List.drop_eq_getElem_cons hk, ← hy, List.getD_eq_getElem?_getD, List.getElem?_eq_getElem hk]
    rfl
  rw [e2, hx] at e1
  have hA : (l.take k).length = k := by rw [List.length_take]; omega
  generalize l.take k = A at e1 hA
  generalize l.drop (k + 2) = R at e1
  subst hA
  refine ⟨A, R, e1, ?_⟩
  rw [e1]
  simp [List.set_append]
end Go.X
