/- Plain laws of histories: what is true of the calls that past.read finds. -/
import Derived.Test.YthgppaccdlcaiaaYh
set_option linter.unusedVariables false
set_option linter.unusedSimpArgs false
namespace Go.X

theorem gd_app (l : List Cl) (c : Cl) (k : Nat) : (l ++ [c]).getD k default = if k < l.length then l.getD k default else if k = l.length then c else default := by
  simp only [List.getD_eq_getElem?_getD]
  split
  · rename_i h
    rw [List.getElem?_append_left h]
  · rename_i h
    rw [List.getElem?_append_right (by omega)]
    split
    · rename_i e
      subst e
      simp
    · rename_i e
      have : k - l.length ≠ 0 := by omega
      cases hk : k - l.length with
      | zero => omega
      | succ n => simp
theorem gd_set (l : List Cl) (c : Cl) (j k : Nat) (hj : j < l.length) : (l.set j c).getD k default = if k = j then c else l.getD k default := by
  simp only [List.getD_eq_getElem?_getD, List.getElem?_set]
  by_cases h : j = k
  · subst h
    simp [hj]
  · simp [h, Ne.symm h]

theorem rrun_app (l r : List Evt) : ∀ (i : Nat) (s : List Cl × List (Int × Int)), rrun (l ++ r) i s = (rrun l i s).bind (rrun r (i + l.length)) := by
  induction l with
  | nil => intro i s; simp [rrun]
  | cons x l ih =>
    intro i s
    simp only [List.cons_append, rrun, List.length_cons]
    cases rstep i x s with
    | none => rfl
    | some s' =>
      simp only [Option.bind_some]
      rw [ih]
      congr 2
      omega

theorem rrun_inv {h : List Evt} {Q : Nat → List Cl × List (Int × Int) → Prop} (h0 : Q 0 ([], []))
    (hs : ∀ i s s', i < h.length → Q i s → rstep i (h.getD i default) s = some s' → Q (i + 1) s') {s : List Cl × List (Int × Int)} (hr : rrun h 0 ([], []) = some s) : Q h.length s := by
  have key : ∀ (n i : Nat) (s' : List Cl × List (Int × Int)), h.length - i = n → i ≤ h.length → Q i s' → rrun (h.drop i) i s' = some s → Q h.length s := by
    intro n
    induction n with
    | zero =>
      intro i s' hn hi hq hrr
      have : i = h.length := by omega
      subst this
      simp only [List.drop_length, rrun, Option.some.injEq] at hrr
      subst hrr
      exact hq
    | succ n ih =>
      intro i s' hn hi hq hrr
      have hi' : i < h.length := by omega
      rw [List.drop_eq_getElem_cons hi'] at hrr
      have hg : h[i] = h.getD i default := by simp [List.getD_eq_getElem?_getD, hi']
      rw [hg] at hrr
      simp only [rrun] at hrr
      cases hst : rstep i (h.getD i default) s' with
      | none => rw [hst] at hrr; simp at hrr
      | some s2 =>
        rw [hst] at hrr
        simp only [Option.bind_some] at hrr
        exact ih (i + 1) s2 (by omega) (by omega) (hs i s' s2 hi' hq hst) hrr
  exact key _ 0 _ rfl (Nat.zero_le _) h0 (by simpa using hr)

/-- What the state says. -/
structure HInv (h : List Evt) (i : Nat) (s : List Cl × List (Int × Int)) : Prop where
  nod : INod s.2
  beg : ∀ k, k < s.1.length → ∃ b, b < i ∧ (s.1.getD k default).beg = (b : Int) ∧ (h.getD b default).ret = false ∧ (h.getD b default).who = (s.1.getD k default).who ∧ (h.getD b default).op = (s.1.getD k default).op
  fin : ∀ k, k < s.1.length → (s.1.getD k default).fin = -1 ∨ ∃ f : Nat, (s.1.getD k default).fin = (f : Int) ∧ (s.1.getD k default).beg < (f : Int) ∧ f < i ∧ (h.getD f default).ret = true
  rise : ∀ j k, j < k → k < s.1.length → (s.1.getD j default).beg < (s.1.getD k default).beg
  opn : ∀ k, k < s.1.length → (s.1.getD k default).fin = -1 → iget s.2 (s.1.getD k default).who = some ((k : Int) + 1)
  map : ∀ t v, iget s.2 t = some v → ∃ k : Nat, v = (k : Int) + 1 ∧ k < s.1.length ∧ (s.1.getD k default).who = t ∧ (s.1.getD k default).fin = -1
  seq : ∀ j k, j < k → k < s.1.length → (s.1.getD j default).who = (s.1.getD k default).who → 0 ≤ (s.1.getD j default).fin ∧ (s.1.getD j default).fin < (s.1.getD k default).beg
  ne : 0 < i → s.1 ≠ []
  who : ∀ k, k < s.1.length → 0 ≤ (s.1.getD k default).who ∧ (s.1.getD k default).who < 6

theorem HInv.zero (h : List Evt) : HInv h 0 ([], []) where
  nod := by simp [INod]
  beg k hk := by simp at hk
  fin k hk := by simp at hk
  rise j k hj hk := by simp at hk
  opn k hk := by simp at hk
  map t v hv := by simp [iget] at hv
  seq j k hj hk := by simp at hk
  ne hi := by omega
  who k hk := by simp at hk

theorem rstep_cases {h : List Evt} {i : Nat} {x : Evt} {out : List Cl} {ms : List (Int × Int)} (I : HInv h i (out, ms)) {s' : List Cl × List (Int × Int)} (hs : rstep i x (out, ms) = some s') :
    0 ≤ x.who ∧ x.who < 6 ∧ ((x.ret = false ∧ iget ms x.who = none ∧ mayOpB x.op = true ∧ x.ans = ans0 ∧ s' = (out ++ [⟨x.who, i, -1, x.op, ans0⟩], iput ms x.who (out.length + 1))) ∨
      (x.ret = true ∧ ∃ k : Nat, k < out.length ∧ iget ms x.who = some ((k : Int) + 1) ∧ (out.getD k default).who = x.who ∧ (out.getD k default).fin = -1 ∧ (out.getD k default).op = x.op ∧
        s' = (out.set k { out.getD k default with fin := i, ans := x.ans }, idel ms x.who))) := by
  simp only [rstep] at hs
  split at hs
  · cases hs
  · rename_i hw
    refine ⟨by omega, by omega, ?_⟩
    split at hs
    · rename_i hret
      split at hs
      · cases hs
      · rename_i hc
        simp only [not_or, Option.some.injEq] at hc hs
        refine .inl ⟨hret, ?_, by simpa using hc.2.1, by simpa using hc.2.2, hs.symm⟩
        cases hg : iget ms x.who with
        | none => rfl
        | some v =>
          obtain ⟨k, rfl, _⟩ := I.map _ _ hg
          rw [hg] at hc
          simp at hc
          omega
    · rename_i hret
      split at hs
      · cases hs
      · rename_i hc
        simp only [not_or, Option.some.injEq] at hc hs
        refine .inr ⟨by simpa using hret, ?_⟩
        cases hg : iget ms x.who with
        | none => rw [hg] at hc; simp at hc
        | some v =>
          obtain ⟨k, rfl, hk, h1, h2⟩ := I.map _ _ hg
          rw [hg] at hc hs
          have e : (((k : Int) + 1) - 1).toNat = k := by omega
          simp only [Option.getD_some, e] at hc hs
          exact ⟨k, hk, rfl, h1, h2, by simpa using hc.2, hs.symm⟩

theorem HInv.step {h : List Evt} {i : Nat} {s s' : List Cl × List (Int × Int)} (hi : i < h.length) (I : HInv h i s) (hs : rstep i (h.getD i default) s = some s') : HInv h (i + 1) s' := by
  obtain ⟨out, ms⟩ := s
  obtain ⟨w0, w1, hc⟩ := rstep_cases I hs
  generalize hx : h.getD i default = x at *
  rcases hc with ⟨hret, hnone, hop, hans, rfl⟩ | ⟨hret, k0, hk0, hg0, hwho, hfin, hop, rfl⟩
  · have I1 := I.beg; have I2 := I.fin; have I3 := I.rise; have I4 := I.opn; have I5 := I.map; have I6 := I.seq; have I7 := I.who
    simp only at I1 I2 I3 I4 I5 I6 I7
    have hbeg : ∀ k, k < out.length → (out.getD k default).beg < (i : Int) := fun k hk => by obtain ⟨b, hb, e, _⟩ := I1 k hk; omega
    exact {
      nod := iput_nod I.nod _ _
      beg := fun k hk => by
        simp only [List.length_append, List.length_cons, List.length_nil] at hk
        simp only [gd_app]
        by_cases hkl : k < out.length
        · simp only [hkl, if_true]
          obtain ⟨b, hb, r⟩ := I1 k hkl
          exact ⟨b, by omega, r⟩
        · have e : k = out.length := by omega
          simp only [e, Nat.lt_irrefl, if_false, if_true]
          exact ⟨i, by omega, rfl, by rw [hx]; exact hret, by rw [hx], by rw [hx]⟩
      fin := fun k hk => by
        simp only [List.length_append, List.length_cons, List.length_nil] at hk
        simp only [gd_app]
        by_cases hkl : k < out.length
        · simp only [hkl, if_true]
          rcases I2 k hkl with hf | ⟨f, h1, h2, h3, h4⟩
          · exact .inl hf
          · exact .inr ⟨f, h1, h2, by omega, h4⟩
        · have e : k = out.length := by omega
          simp only [e, Nat.lt_irrefl, if_false, if_true]
          exact .inl trivial
      rise := fun j k hj hk => by
        simp only [List.length_append, List.length_cons, List.length_nil] at hk
        simp only [gd_app]
        by_cases hkl : k < out.length
        · have hjl : j < out.length := by omega
          simp only [hkl, hjl, if_true]
          exact I3 j k hj hkl
        · have e : k = out.length := by omega
          have hjl : j < out.length := by omega
          simp only [hjl, e, Nat.lt_irrefl, if_false, if_true]
          exact hbeg j hjl
      opn := fun k hk => by
        simp only [List.length_append, List.length_cons, List.length_nil] at hk
        simp only [gd_app]
        by_cases hkl : k < out.length
        · simp only [hkl, if_true]
          intro hf
          rw [iget_put]
          have := I4 k hkl hf
          rw [if_neg (fun e => by rw [e, hnone] at this; cases this)]
          exact this
        · have e : k = out.length := by omega
          simp only [e, Nat.lt_irrefl, if_false, if_true]
          intro _
          rw [iget_put, if_pos rfl]
      map := fun t v hv => by
        simp only at hv
        rw [iget_put] at hv
        split at hv
        · rename_i e
          simp only [Option.some.injEq] at hv
          exact ⟨out.length, hv.symm, by simp, by simp [gd_app, e], by simp [gd_app]⟩
        · obtain ⟨k, hk1, hk2, hk3, hk4⟩ := I5 t v hv
          exact ⟨k, hk1, by simp; omega, by simp only [gd_app, hk2, if_true]; exact hk3, by simp only [gd_app, hk2, if_true]; exact hk4⟩
      seq := fun j k hj hk => by
        simp only [List.length_append, List.length_cons, List.length_nil] at hk
        simp only [gd_app]
        by_cases hkl : k < out.length
        · have hjl : j < out.length := by omega
          simp only [hkl, hjl, if_true]
          exact I6 j k hj hkl
        · have e : k = out.length := by omega
          have hjl : j < out.length := by omega
          simp only [hjl, e, Nat.lt_irrefl, if_false, if_true]
          intro hw
          rcases I2 j hjl with hf | ⟨f, h1, h2, h3, h4⟩
          · have := I4 j hjl hf
            rw [hw, hnone] at this
            cases this
          · omega
      ne := fun _ => by simp
      who := fun k hk => by
        simp only [List.length_append, List.length_cons, List.length_nil] at hk
        simp only [gd_app]
        by_cases hkl : k < out.length
        · simp only [hkl, if_true]
          exact I7 k hkl
        · have e : k = out.length := by omega
          simp only [e, Nat.lt_irrefl, if_false, if_true]
          exact ⟨w0, w1⟩ }
  · have I1 := I.beg; have I2 := I.fin; have I3 := I.rise; have I4 := I.opn; have I5 := I.map; have I6 := I.seq; have I7 := I.who
    simp only at I1 I2 I3 I4 I5 I6 I7
    have fb : ∀ k, ((out.set k0 { out.getD k0 default with fin := (i : Int), ans := x.ans }).getD k default).beg = (out.getD k default).beg := fun k => by
      rw [gd_set _ _ _ _ hk0]; split
      · rename_i e; subst e; rfl
      · rfl
    have fw : ∀ k, ((out.set k0 { out.getD k0 default with fin := (i : Int), ans := x.ans }).getD k default).who = (out.getD k default).who := fun k => by
      rw [gd_set _ _ _ _ hk0]; split
      · rename_i e; subst e; rfl
      · rfl
    have fo : ∀ k, ((out.set k0 { out.getD k0 default with fin := (i : Int), ans := x.ans }).getD k default).op = (out.getD k default).op := fun k => by
      rw [gd_set _ _ _ _ hk0]; split
      · rename_i e; subst e; rfl
      · rfl
    have ff : ∀ k, ((out.set k0 { out.getD k0 default with fin := (i : Int), ans := x.ans }).getD k default).fin = if k = k0 then (i : Int) else (out.getD k default).fin := fun k => by
      rw [gd_set _ _ _ _ hk0]; split
      · rfl
      · rfl
    exact {
      nod := idel_nod I.nod _
      beg := fun k hk => by
        simp only [List.length_set] at hk
        simp only [fb, fw, fo]
        obtain ⟨b, hb, r⟩ := I1 k hk
        exact ⟨b, by omega, r⟩
      fin := fun k hk => by
        simp only [List.length_set] at hk
        simp only [fb, ff]
        by_cases hkk : k = k0
        · simp only [hkk, if_true]
          obtain ⟨b, hb, e, _⟩ := I1 k0 hk0
          exact .inr ⟨i, rfl, by omega, by omega, by rw [hx]; exact hret⟩
        · simp only [hkk, if_false]
          rcases I2 k hk with hf | ⟨f, h1, h2, h3, h4⟩
          · exact .inl hf
          · exact .inr ⟨f, h1, h2, by omega, h4⟩
      rise := fun j k hj hk => by
        simp only [List.length_set] at hk
        simp only [fb]
        exact I3 j k hj hk
      opn := fun k hk => by
        simp only [List.length_set] at hk
        simp only [fw, ff]
        by_cases hkk : k = k0
        · simp only [hkk, if_true]
          intro e
          omega
        · simp only [hkk, if_false]
          intro hf
          have h1 := I4 k hk hf
          rw [iget_del I.nod, if_neg (fun e => by
            rw [e] at h1
            rw [hg0, Option.some.injEq] at h1
            omega)]
          exact h1
      map := fun t v hv => by
        simp only at hv
        rw [iget_del I.nod] at hv
        split at hv
        · cases hv
        · rename_i hne
          obtain ⟨k, hk1, hk2, hk3, hk4⟩ := I5 t v hv
          have hkk : k ≠ k0 := fun e => by subst e; exact hne (hk3.symm.trans hwho)
          exact ⟨k, hk1, by simp [hk2], by simp only [fw]; exact hk3, by simp only [ff, hkk, if_false]; exact hk4⟩
      seq := fun j k hj hk => by
        simp only [List.length_set] at hk
        simp only [fw, fb, ff]
        intro hw
        have h1 := I6 j k hj hk hw
        by_cases hjj : j = k0
        · subst hjj
          rw [hfin] at h1
          omega
        · simp only [hjj, if_false]
          exact h1
      ne := fun _ => by
        intro e
        have : (out.set k0 { out.getD k0 default with fin := (i : Int), ans := x.ans }).length = 0 := by simp only at e; rw [e]; rfl
        simp only [List.length_set] at this
        omega
      who := fun k hk => by
        simp only [List.length_set] at hk
        simp only [fw]
        exact I7 k hk }

theorem readP_inv {h : List Evt} {out : List Cl} (hr : readP h = some out) : ∃ ms, rrun h 0 ([], []) = some (out, ms) ∧ HInv h h.length (out, ms) := by
  simp only [readP, Option.map_eq_some_iff] at hr
  obtain ⟨⟨out', ms⟩, hrr, rfl⟩ := hr
  exact ⟨ms, hrr, rrun_inv (HInv.zero h) (fun i s s' hi I hs => I.step hi hs) hrr⟩
end Go.X
