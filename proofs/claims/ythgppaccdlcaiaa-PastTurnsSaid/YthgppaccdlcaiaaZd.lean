/- Plain laws of histories: how many calls and returns there are. -/
import Derived.Test.YthgppaccdlcaiaaZc
set_option linter.unusedVariables false
set_option linter.unusedSimpArgs false
namespace Go.X

def nbeg : List Evt → Nat
  | [] => 0
  | x :: r => (if x.ret then 0 else 1) + nbeg r
def nret : List Evt → Nat
  | [] => 0
  | x :: r => (if x.ret then 1 else 0) + nret r
def nfin : List Cl → Nat
  | [] => 0
  | c :: r => (if 0 ≤ c.fin then 1 else 0) + nfin r
theorem nbeg_app (a b : List Evt) : nbeg (a ++ b) = nbeg a + nbeg b := by
  induction a with
  | nil => simp [nbeg]
  | cons x a ih => simp only [List.cons_append, nbeg, ih]; omega
theorem nret_app (a b : List Evt) : nret (a ++ b) = nret a + nret b := by
  induction a with
  | nil => simp [nret]
  | cons x a ih => simp only [List.cons_append, nret, ih]; omega
theorem nfin_app (a b : List Cl) : nfin (a ++ b) = nfin a + nfin b := by
  induction a with
  | nil => simp [nfin]
  | cons x a ih => simp only [List.cons_append, nfin, ih]; omega
theorem nfin_set : ∀ (l : List Cl) (k : Nat) (c : Cl), k < l.length → (l.getD k default).fin < 0 → 0 ≤ c.fin → nfin (l.set k c) = nfin l + 1
  | [], k, c, hk, _, _ => by simp at hk
  | x :: r, 0, c, _, h1, h2 => by
    simp only [List.getD_cons_zero] at h1
    simp only [List.set_cons_zero, nfin, if_pos h2]
    rw [if_neg (by omega)]
    omega
  | x :: r, k + 1, c, hk, h1, h2 => by
    have := nfin_set r k c (by simpa using hk) (by simpa using h1) h2
    simp only [List.set_cons_succ, nfin, this]
    omega
theorem nfin_le (l : List Cl) : nfin l ≤ l.length := by
  induction l with
  | nil => simp [nfin]
  | cons c r ih => simp only [nfin, List.length_cons]; split <;> omega
theorem nfin_all' (l : List Cl) : ((l.all fun c => decide (0 ≤ c.fin)) = true) ↔ l.length = nfin l := by
  induction l with
  | nil => simp [nfin]
  | cons c r ih =>
    rw [List.all_cons, Bool.and_eq_true, decide_eq_true_eq, ih]
    simp only [nfin, List.length_cons]
    have := nfin_le r
    split <;> omega
theorem nfin_all (l : List Cl) : (l.all fun c => decide (0 ≤ c.fin)) = decide (l.length = nfin l) := by
  rw [Bool.eq_iff_iff, nfin_all', decide_eq_true_eq]
theorem take_succ {h : List Evt} {i : Nat} (hi : i < h.length) : h.take (i + 1) = h.take i ++ [h.getD i default] := by
  rw [List.take_add_one, List.getD_eq_getElem?_getD, List.getElem?_eq_getElem hi]
  rfl
theorem counts {h : List Evt} (hok : okP h = true) : (callsP h).length = nbeg h ∧ nfin (callsP h) = nret h := by
  obtain ⟨ms, hr, _⟩ := okP_inv hok
  have key := rrun_inv (h := h) (Q := fun i s => HInv h i s ∧ s.1.length = nbeg (h.take i) ∧ nfin s.1 = nret (h.take i)) ⟨HInv.zero h, by simp [nbeg], by simp [nret, nfin]⟩ (fun i s s' hi ⟨I, h1, h2⟩ hs => by
    refine ⟨I.step hi hs, ?_⟩
    obtain ⟨out, ms⟩ := s
    obtain ⟨_, _, hc⟩ := rstep_cases I hs
    simp only at h1 h2
    rw [take_succ hi, nbeg_app, nret_app, ← h1, ← h2]
    rcases hc with ⟨hret, _, _, _, rfl⟩ | ⟨hret, k0, hk0, _, _, hfin, _, rfl⟩
    · simp [nbeg, nret, hret, nfin_app, nfin, -List.getD_eq_getElem?_getD]
    · simp only [nbeg, nret, hret, if_true, List.length_set]
      rw [nfin_set _ _ _ hk0 (by omega) (by simp)]
      omega) hr
  rw [List.take_of_length_le (Nat.le_refl _)] at key
  exact key.2
theorem over_counts {h : List Evt} (hok : okP h = true) : overP h = decide (nbeg h = nret h) := by
  obtain ⟨h1, h2⟩ := counts hok
  rw [overP, hok, Bool.true_and, nfin_all, h1, h2]
theorem not_ok {h : List Evt} (hok : okP h = false) : callsP h = [] ∧ overP h = false ∧ soloP h = false := by
  refine ⟨?_, by rw [overP, hok]; rfl, by rw [soloP, hok]; rfl⟩
  unfold okP at hok
  unfold callsP
  cases hr : readP h with
  | none => rfl
  | some l => rw [hr] at hok; cases hok
theorem soloTo_end {h : List Evt} {i : Nat} (h1 : (callsP h).length ≤ i) (h2 : i = 1 ∨ i ≤ (callsP h).length) : soloTo h i = soloP h := by
  rcases h2 with rfl | h2
  · unfold soloTo soloP
    congr 1
    exact (bof_true fun j h3 h4 => by omega).trans (bof_true fun j h3 h4 => by omega).symm
  · have : i = (callsP h).length := by omega
    subst this
    rfl
theorem nbeg_le (h : List Evt) : nbeg h + nret h = h.length := by
  induction h with
  | nil => rfl
  | cons x r ih =>
    simp only [nbeg, nret, List.length_cons]
    cases x.ret <;> simp <;> omega
end Go.X
