/- Plain laws of histories: one event more. -/
import Derived.Test.YthgppaccdlcaiaaZd
set_option linter.unusedVariables false
set_option linter.unusedSimpArgs false
namespace Go.X

/-- The call that a thread is at, by where it began; -1: none. -/
def onTo (h : List Evt) (t : Int) : Nat → Int
  | 0 => -1
  | i + 1 => if (h.getD i default).who = t then (if (h.getD i default).ret then -1 else (i : Int)) else onTo h t i
theorem onTo_lo (h : List Evt) (t : Int) (i : Nat) : -1 ≤ onTo h t i ∧ onTo h t i < i := by
  induction i with
  | zero => simp [onTo]
  | succ i ih =>
    simp only [onTo]
    split
    · split <;> omega
    · omega

theorem on_state {h : List Evt} (t : Int) {out : List Cl} {ms : List (Int × Int)} (hr : rrun h 0 ([], []) = some (out, ms)) :
    (iget ms t = none ∧ onTo h t h.length = -1) ∨ ∃ k : Nat, k < out.length ∧ iget ms t = some ((k : Int) + 1) ∧ onTo h t h.length = (out.getD k default).beg := by
  have key := rrun_inv (h := h) (Q := fun i s => HInv h i s ∧ ((iget s.2 t = none ∧ onTo h t i = -1) ∨ ∃ k : Nat, k < s.1.length ∧ iget s.2 t = some ((k : Int) + 1) ∧ onTo h t i = (s.1.getD k default).beg)) ⟨HInv.zero h, .inl ⟨rfl, rfl⟩⟩ (fun i s s' hi ⟨I, h1⟩ hs => by
    refine ⟨I.step hi hs, ?_⟩
    obtain ⟨out, ms⟩ := s
    obtain ⟨_, _, hc⟩ := rstep_cases I hs
    simp only [onTo]
    rcases hc with ⟨hret, hnone, _, _, rfl⟩ | ⟨hret, k0, hk0, hg0, hwho, hfin, _, rfl⟩
    · simp only [hret, Bool.false_eq_true, if_false, iget_put]
      by_cases e : (h.getD i default).who = t
      · subst e
        simp only [if_true]
        exact .inr ⟨out.length, by simp, rfl, by simp [gd_app, -List.getD_eq_getElem?_getD]⟩
      · rw [if_neg (fun e' => e e'.symm), if_neg e]
        rcases h1 with h1 | ⟨k, hk, h2, h3⟩
        · exact .inl h1
        · exact .inr ⟨k, by simp only [List.length_append] at hk ⊢; omega, h2, by rw [h3]; simp only [gd_app]; rw [if_pos hk]⟩
    · simp only [hret, if_true, iget_del I.nod]
      by_cases e : (h.getD i default).who = t
      · subst e
        simp
      · rw [if_neg (fun e' => e e'.symm), if_neg e]
        rcases h1 with h1 | ⟨k, hk, h2, h3⟩
        · exact .inl h1
        · refine .inr ⟨k, by simpa using hk, h2, ?_⟩
          rw [h3]
          simp only [gd_set _ _ _ _ hk0]
          split
          · rename_i e2; subst e2; rfl
          · rfl) hr
  exact key.2

theorem readP_snoc {h : List Evt} {out : List Cl} {ms : List (Int × Int)} (e : Evt) (hr : rrun h 0 ([], []) = some (out, ms)) : readP (h ++ [e]) = (rstep h.length e (out, ms)).map (·.1) := by
  simp only [readP, rrun_app, hr, Option.bind_some, rrun, Nat.zero_add]
  cases rstep h.length e (out, ms) <;> rfl

theorem turn_call {h : List Evt} (hok : okP h = true) (t : Int) (h0 : 0 ≤ t) (h6 : t < 6) (op : Opn) (hop : mayOpB op = true) :
    okP (h ++ [⟨t, false, op, ans0⟩]) = decide (onTo h t h.length < 0) ∧ (onTo h t h.length < 0 → (callsP (h ++ [⟨t, false, op, ans0⟩])).length = (callsP h).length + 1 ∧ overP (h ++ [⟨t, false, op, ans0⟩]) = false) := by
  obtain ⟨ms, hr, I⟩ := okP_inv hok
  have hs := readP_snoc ⟨t, false, op, ans0⟩ hr
  have hst : rstep h.length ⟨t, false, op, ans0⟩ (callsP h, ms) = if 1 ≤ (iget ms t).getD 0 then none else some (callsP h ++ [⟨t, h.length, -1, op, ans0⟩], iput ms t ((callsP h).length + 1)) := by
    simp only [rstep]
    rw [if_neg (by omega), if_pos trivial]
    simp [hop]
  rcases on_state t hr with ⟨h1, h2⟩ | ⟨k, hk, h1, h2⟩
  · rw [h1, if_neg (by simp)] at hst
    rw [hst] at hs
    have hc : callsP (h ++ [⟨t, false, op, ans0⟩]) = callsP h ++ [⟨t, h.length, -1, op, ans0⟩] := by rw [callsP, hs]; rfl
    have ho : okP (h ++ [⟨t, false, op, ans0⟩]) = true := by rw [okP, hs]; rfl
    refine ⟨by rw [ho, h2]; rfl, fun _ => ⟨by rw [hc]; simp, ?_⟩⟩
    rw [overP, hc]
    simp
  · have hb := I.beg k hk
    obtain ⟨b, _, hb, _⟩ := hb
    simp only at hb
    rw [h1, if_pos (by simp only [Option.getD_some]; omega)] at hst
    rw [hst] at hs
    have ho : okP (h ++ [⟨t, false, op, ans0⟩]) = false := by rw [okP, hs]; rfl
    refine ⟨?_, fun h3 => by omega⟩
    rw [ho, h2, hb, eq_comm, decide_eq_false_iff_not]
    omega
theorem turn_ret {h : List Evt} (hok : okP h = true) (t : Int) (h0 : 0 ≤ t) (h6 : t < 6) (op : Opn) :
    okP (h ++ [⟨t, true, op, ans0⟩]) = bof (0 ≤ onTo h t h.length ∧ op = (h.getD (onTo h t h.length).toNat default).op) := by
  obtain ⟨ms, hr, I⟩ := okP_inv hok
  have hs := readP_snoc ⟨t, true, op, ans0⟩ hr
  rcases on_state t hr with ⟨h1, h2⟩ | ⟨k, hk, h1, h2⟩
  · have hst : rstep h.length ⟨t, true, op, ans0⟩ (callsP h, ms) = none := by
      simp only [rstep]
      rw [if_neg (by omega), if_neg (by simp), h1, if_pos (.inl (by simp))]
    rw [hst] at hs
    rw [okP, hs, h2]
    exact (bof_false (by omega)).symm
  · obtain ⟨b, _, hb, _, _, hbo⟩ := I.beg k hk
    simp only at hb hbo
    rw [h2, hb, Int.toNat_natCast, hbo]
    have e1 : ((k : Int) + 1 - 1).toNat = k := by omega
    have hst : rstep h.length ⟨t, true, op, ans0⟩ (callsP h, ms) = if ((callsP h).getD k default).op ≠ op then none else some ((callsP h).set k { (callsP h).getD k default with fin := h.length, ans := ans0 }, idel ms t) := by
      simp only [rstep]
      rw [if_neg (by omega), if_neg (by simp), h1]
      simp only [Option.getD_some, e1]
      by_cases e : ((callsP h).getD k default).op = op
      · rw [if_neg (by rintro (h3 | h3); omega; exact h3 e), if_neg (by simpa using e)]
      · rw [if_pos (.inr e), if_pos e]
    rw [hst] at hs
    rw [okP, hs]
    by_cases e : ((callsP h).getD k default).op = op
    · rw [if_neg (by simpa using e)]
      exact (bof_true ⟨by omega, e.symm⟩).symm
    · rw [if_pos e]
      exact (bof_false fun h3 => e h3.2.symm).symm
end Go.X
