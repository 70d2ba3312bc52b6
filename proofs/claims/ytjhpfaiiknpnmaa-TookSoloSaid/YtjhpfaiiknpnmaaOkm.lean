/- Plain laws of orders: calls one after the other. -/
import Derived.Test.YtjhpfaiiknpnmaaOim
import Derived.Test.YtjhpfaiiknpnmaaZ5
set_option linter.unusedVariables false
set_option linter.unusedSimpArgs false
set_option maxRecDepth 100000
namespace Go.X

def allI (n : Nat) : List Int := (List.range n).map fun j : Nat => (j : Int)
theorem allI_len (n : Nat) : (allI n).length = n := by simp [allI]
theorem allI_succ (n : Nat) : allI (n + 1) = allI n ++ [(n : Int)] := by simp [allI, List.range_succ]
theorem mem_allI {n : Nat} {x : Int} : x ∈ allI n ↔ 0 ≤ x ∧ x < n := by
  rw [allI, List.mem_map]
  constructor
  · rintro ⟨j, hj, rfl⟩
    have := List.mem_range.1 hj
    omega
  · rintro ⟨h0, h1⟩
    exact ⟨x.toNat, List.mem_range.2 (by omega), Int.toNat_of_nonneg h0⟩
theorem allI_get {n i : Nat} (hi : i < n) : (allI n).getD i default = (i : Int) := by
  simp [allI, List.getD_eq_getElem?_getD, hi]
theorem allI_lt (n : Nat) : (allI n).Pairwise (· < ·) := by
  rw [allI, List.pairwise_map]
  exact List.pairwise_lt_range.imp fun h => by omega
theorem lt_nodup {l : List Int} (h : l.Pairwise (· < ·)) : l.Nodup := h.imp fun h e => by omega
/-- What one map told, one call after the other. -/
noncomputable def soS (b : List Pr) (C : List Cl) : Nat → List Pr × Bool
  | 0 => (b, true)
  | n + 1 => (doL (soS b C n).1 (C.getD n default).op, (soS b C n).2 && bof (doA (soS b C n).1 (C.getD n default).op = (C.getD n default).ans))
theorem soS_len (b : List Pr) (C : List Cl) : ∀ n, (soS b C n).1.length ≤ b.length + n
  | 0 => Nat.le_refl _
  | n + 1 => by
    have := soS_len b C n
    have := doL_len (soS b C n).1 (C.getD n default).op
    rw [soS]
    simp only
    omega
theorem clAt_nat (C : List Cl) (n : Nat) : clAt C (n : Int) = C.getD n default := by rw [clAt, Int.toNat_natCast]
theorem goes_all {b : List Pr} {C : List Cl} : ∀ {n : Nat}, (∀ j, j < n → 0 ≤ (C.getD j default).fin) → goesO C (allI n) b = if (soS b C n).2 = true then some (soS b C n).1 else none
  | 0, _ => rfl
  | n + 1, h => by
    have ih := goes_all (b := b) (C := C) (n := n) fun j hj => h j (by omega)
    have h0 := h n (by omega)
    rw [allI_succ, goesO_app, ih]
    cases hs : (soS b C n).2 with
    | false =>
      rw [soS, hs]
      rfl
    | true =>
      rw [if_pos rfl, Option.bind_some, goesO, clAt_nat, soS, hs]
      by_cases e : doA (soS b C n).1 (C.getD n default).op = (C.getD n default).ans
      · rw [if_neg (fun h => h.2 e), goesO]
        simp only [bof_true e, Bool.true_and, if_true]
      · rw [if_pos ⟨h0, e⟩]
        simp only [bof_false e, Bool.and_false]
        rfl
structure SoloC (C : List Cl) : Prop where
  fin : ∀ j, j < C.length → 0 ≤ (C.getD j default).fin
  rise : ∀ i j, i < j → j < C.length → (C.getD i default).beg < (C.getD j default).beg
  own : ∀ j, j < C.length → (C.getD j default).beg < (C.getD j default).fin
  solo : ∀ i j, i < j → j < C.length → (C.getD i default).fin < (C.getD j default).beg
theorem solo_of {h : List Evt} (hs : soloP h = true) (ho : overP h = true) : SoloC (callsP h) := by
  rw [soloP, Bool.and_eq_true, bof_iff] at hs
  rw [overP, Bool.and_eq_true, List.all_eq_true] at ho
  obtain ⟨ms, hr, I⟩ := okP_inv hs.1
  have h1 : ∀ j, j < (callsP h).length → 0 ≤ ((callsP h).getD j default).fin := fun j hj => by
    have := ho.2 _ (getD_mem' _ default hj)
    simpa using this
  have h2 := I.rise
  simp only at h2
  refine ⟨h1, h2, fun j hj => ?_, fun i j hij hj => ?_⟩
  · have h3 := h1 j hj
    rcases I.fin j hj with e | ⟨f, e, e2, _⟩
    · simp only at e
      omega
    · simp only at e e2
      omega
  · have h3 := (hs.2 (i + 1) (by omega) (by omega)).2
    rw [Nat.add_sub_cancel] at h3
    by_cases e : i + 1 = j
    · subst e; exact h3
    · have := h2 (i + 1) j (by omega) hj
      omega
theorem solo_all {b : List Pr} {h : List Evt} (hb : bof (Rises b) = true) (hok : okP h = true) (S : SoloC (callsP h)) (he : ∀ j, j < (callsP h).length → ((callsP h).getD j default).ans.err = 0) :
    rightO b h (allI (callsP h).length) = if (soS b (callsP h) (callsP h).length).2 = true then some (soS b (callsP h) (callsP h).length).1 else none := by
  have hn : namedB (callsP h) (allI (callsP h).length) = true := bof_true ⟨fun x hx => mem_allI.1 hx, lt_nodup (allI_lt _), fun j hj h0 => ⟨fun _ => he j hj, fun _ => mem_allI.2 ⟨by omega, by omega⟩⟩⟩
  have ht : timelyB (callsP h) (allI (callsP h).length) = true := bof_true fun a c hac hc => by
    rw [allI_len] at hc
    rw [allI_get hc, allI_get (show a < (callsP h).length by omega), clAt_nat, clAt_nat]
    rintro ⟨_, h2⟩
    have := S.own c hc
    have := S.rise a c hac hc
    omega
  rw [right_mk hb hok hn ht, putL_idO ((rises_asc b).1 (bof_iff.1 hb)), goes_all S.fin]
theorem solo_one {b : List Pr} {h : List Evt} {l : List Int} (S : SoloC (callsP h)) (he : ∀ j, j < (callsP h).length → ((callsP h).getD j default).ans.err = 0) (hr : (rightO b h l).isSome = true) : l = allI (callsP h).length := by
  obtain ⟨s, hs⟩ := Option.isSome_iff_exists.1 hr
  obtain ⟨_, _, h3, h4, _⟩ := right_inv hs
  obtain ⟨h1, h2, h5⟩ := bof_iff.1 h3
  rw [timely_pw, bof_iff] at h4
  refine List.Perm.eq_of_pairwise (le := (· ≤ ·)) (fun a b _ _ h1 h2 => by omega) ?_ ((allI_lt _).imp fun h => by omega) ((List.perm_ext_iff_of_nodup h2 (lt_nodup (allI_lt _))).2 fun x => ?_)
  · refine h4.imp_of_mem fun {a b} ha hb hab => ?_
    have ha' := h1 a ha
    have hb' := h1 b hb
    by_cases hlt : b < a
    · refine absurd ⟨?_, ?_⟩ hab
      · exact S.fin _ (by omega)
      · exact S.solo _ _ (by omega) (by omega)
    · omega
  · rw [mem_allI]
    refine ⟨fun hx => h1 x hx, fun hx => ?_⟩
    have := (h5 x.toNat (by omega) (S.fin _ (by omega))).2 (he _ (by omega))
    rwa [Int.toNat_of_nonneg hx.1] at this
end Go.X
