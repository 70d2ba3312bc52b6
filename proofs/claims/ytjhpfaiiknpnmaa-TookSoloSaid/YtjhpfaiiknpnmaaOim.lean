/- Plain laws of orders: one call more. -/
import Derived.Test.YtjhpfaiiknpnmaaOhm
import Derived.Test.YtjhpfaiiknpnmaaZ5
set_option linter.unusedVariables false
set_option linter.unusedSimpArgs false
set_option maxRecDepth 100000
namespace Go.X

theorem readP_snocO {h : List Evt} {out : List Cl} {ms : List (Int × Int)} (e : Evt) (hr : rrun h 0 ([], []) = some (out, ms)) : readP (h ++ [e]) = (rstep h.length e (out, ms)).map (·.1) := by
  simp only [readP, rrun_app, hr, Option.bind_some, rrun, Nat.zero_add]
  cases rstep h.length e (out, ms) <;> rfl
theorem calls_more {h : List Evt} {t : Int} {op : Opn} (hok : okP h = true) (hok' : okP (h ++ [⟨t, false, op, ans0⟩]) = true) : callsP (h ++ [⟨t, false, op, ans0⟩]) = callsP h ++ [⟨t, h.length, -1, op, ans0⟩] := by
  obtain ⟨ms, hr, I⟩ := okP_inv hok
  have hs := readP_snocO ⟨t, false, op, ans0⟩ hr
  cases hst : rstep h.length ⟨t, false, op, ans0⟩ (callsP h, ms) with
  | none => rw [okP, hs, hst] at hok'; cases hok'
  | some s' =>
    rw [callsP, hs, hst]
    simp only [rstep] at hst
    split at hst
    · cases hst
    · rw [if_pos trivial] at hst
      split at hst
      · cases hst
      · simp only [Option.some.injEq] at hst
        rw [← hst]
        rfl
theorem clAt_app {C : List Cl} {c : Cl} {x : Int} (h0 : 0 ≤ x) (hx : x < C.length) : clAt (C ++ [c]) x = clAt C x := by
  rw [clAt, clAt, gd_app, if_pos (by omega)]
theorem clAt_end {C : List Cl} {c : Cl} : clAt (C ++ [c]) (C.length : Int) = c := by
  rw [clAt, gd_app, if_neg (by simp), if_pos (by simp)]
theorem goesO_more {C : List Cl} {c : Cl} : ∀ {l : List Int} (s : List Pr), (∀ x ∈ l, 0 ≤ x ∧ x < C.length) → goesO (C ++ [c]) l s = goesO C l s
  | [], s, _ => rfl
  | i :: r, s, h => by
    have hi := h i (by simp)
    rw [goesO, goesO, clAt_app hi.1 hi.2]
    split
    · rfl
    · exact goesO_more _ fun x hx => h x (by simp [hx])
theorem named_more {C : List Cl} {c : Cl} {l : List Int} (hc : c.fin < 0) (h : namedB C l = true) : namedB (C ++ [c]) l = true := by
  obtain ⟨h1, h2, h3⟩ := bof_iff.1 h
  refine bof_true ⟨fun x hx => ?_, h2, fun j hj h0 => ?_⟩
  · have := h1 x hx
    rw [List.length_append]
    simp only [List.length_cons, List.length_nil]
    omega
  · rw [gd_app] at h0 ⊢
    split
    · rename_i e
      rw [if_pos e] at h0
      exact h3 j e h0
    · rename_i e
      rw [List.length_append, List.length_cons, List.length_nil] at hj
      rw [if_neg e, if_pos (by omega)] at h0
      omega
theorem named_more' {C : List Cl} {c : Cl} {l : List Int} (hc : c.fin < 0) (h : namedB C l = true) : namedB (C ++ [c]) (l ++ [(C.length : Int)]) = true := by
  obtain ⟨h1, h2, h3⟩ := bof_iff.1 h
  refine bof_true ⟨fun x hx => ?_, ?_, fun j hj h0 => ?_⟩
  · rw [List.length_append]
    simp only [List.length_cons, List.length_nil]
    rcases List.mem_append.1 hx with hx | hx
    · have := h1 x hx
      omega
    · rw [List.mem_singleton.1 hx]
      omega
  · rw [List.nodup_append]
    refine ⟨h2, by simp, fun a ha b hb e => ?_⟩
    rw [List.mem_singleton.1 hb] at e
    have := h1 a ha
    omega
  · rw [gd_app] at h0 ⊢
    split
    · rename_i e
      rw [if_pos e] at h0
      rw [List.mem_append, List.mem_singleton, ← h3 j e h0]
      exact ⟨fun h => h.elim (fun h => h) fun h => by omega, .inl⟩
    · rename_i e
      rw [List.length_append, List.length_cons, List.length_nil] at hj
      rw [if_neg e, if_pos (by omega)] at h0
      omega
theorem timely_more {C : List Cl} {c : Cl} {l : List Int} (hin : ∀ x ∈ l, 0 ≤ x ∧ x < C.length) (h : timelyB C l = true) : timelyB (C ++ [c]) l = true := by
  rw [timely_pw, bof_iff] at h ⊢
  exact h.imp_of_mem fun ha hb hab => by
    have h1 := hin _ ha
    have h2 := hin _ hb
    rw [clAt_app h1.1 h1.2, clAt_app h2.1 h2.2]
    exact hab
theorem timely_more' {C : List Cl} {c : Cl} {l : List Int} (hc : c.fin < 0) (hin : ∀ x ∈ l, 0 ≤ x ∧ x < C.length) (h : timelyB C l = true) : timelyB (C ++ [c]) (l ++ [(C.length : Int)]) = true := by
  have h1 := timely_more (c := c) hin h
  rw [timely_pw, bof_iff] at h1 ⊢
  rw [List.pairwise_append]
  refine ⟨h1, by simp, fun a _ b hb => ?_⟩
  rw [List.mem_singleton.1 hb, clAt_end]
  intro hh
  have := hh.1
  omega
theorem right_inv {b : List Pr} {h : List Evt} {l : List Int} {s : List Pr} (hr : rightO b h l = some s) : bof (Rises b) = true ∧ okP h = true ∧ namedB (callsP h) l = true ∧ timelyB (callsP h) l = true ∧ goesO (callsP h) l (putL b) = some s := by
  rw [rightO] at hr
  split at hr
  · rename_i hB
    rw [rightB, Bool.and_eq_true, Bool.and_eq_true, Bool.and_eq_true] at hB
    exact ⟨hB.1, hB.2.1, hB.2.2.1, hB.2.2.2, hr⟩
  · cases hr
theorem right_mk {b : List Pr} {h : List Evt} {l : List Int} (h1 : bof (Rises b) = true) (h2 : okP h = true) (h3 : namedB (callsP h) l = true) (h4 : timelyB (callsP h) l = true) : rightO b h l = goesO (callsP h) l (putL b) := by
  rw [rightO, if_pos (by rw [rightB, h1, h2, h3, h4]; rfl)]
theorem right_more {b : List Pr} {h : List Evt} {l : List Int} {s : List Pr} {t : Int} {op : Opn} (hr : rightO b h l = some s) (hok : okP (h ++ [⟨t, false, op, ans0⟩]) = true) :
    rightO b (h ++ [⟨t, false, op, ans0⟩]) l = some s ∧ rightO b (h ++ [⟨t, false, op, ans0⟩]) (l ++ [((callsP h).length : Int)]) = some (doL s op) := by
  obtain ⟨h1, h2, h3, h4, h5⟩ := right_inv hr
  have hc := calls_more h2 hok
  have hin := named_in h3
  have hf : (⟨t, h.length, -1, op, ans0⟩ : Cl).fin < 0 := by show (-1 : Int) < 0; decide
  constructor
  · rw [right_mk h1 hok (by rw [hc]; exact named_more hf h3) (by rw [hc]; exact timely_more hin h4), hc, goesO_more _ hin, h5]
  · rw [right_mk h1 hok (by rw [hc]; exact named_more' hf h3) (by rw [hc]; exact timely_more' hf hin h4), hc, goesO_app, goesO_more _ hin, h5, Option.bind_some, goesO, clAt_end, if_neg (fun h => by have := h.1; omega), goesO]
/-- An order that is none. -/
theorem right_bad {b : List Pr} {h : List Evt} {l : List Int} (hn : namedB (callsP h) l = false) : rightO b h l = none := by
  rw [rightO, if_neg]
  rw [rightB, hn]
  simp
end Go.X
