/- Plain laws of histories: what the reference lets through may be; a beginning of a history. -/
import Derived.Test.YthgppaccdlcaiaaZb
import Derived.Test.YthgppaccdlcaiaaYg
set_option linter.unusedVariables false
set_option linter.unusedSimpArgs false
namespace Go.X

/-- The reference's state and that of past.read. -/
structure MInv (m : List Bool × List Opn) (s : List Cl × List (Int × Int)) : Prop where
  l1 : m.1.length = 6
  l2 : m.2.length = 6
  on : ∀ t : Nat, t < 6 → m.1.getD t false = (iget s.2 (t : Int)).isSome
  op : ∀ (t k : Nat), t < 6 → iget s.2 (t : Int) = some ((k : Int) + 1) → (s.1.getD k default).op = m.2.getD t default

theorem getD_set {α : Type} (l : List α) (d : α) (j k : Nat) (x : α) (hj : j < l.length) : (l.set j x).getD k d = if k = j then x else l.getD k d := by
  simp only [List.getD_eq_getElem?_getD, List.getElem?_set]
  by_cases h : j = k
  · subst h
    simp [hj]
  · simp [h, Ne.symm h]

theorem MInv.step {h : List Evt} {i : Nat} {x : Evt} {m m' : List Bool × List Opn} {s : List Cl × List (Int × Int)} (I : HInv h i s) (J : MInv m s) (hm : mstep x m = some m') : ∃ s', rstep i x s = some s' ∧ MInv m' s' := by
  obtain ⟨out, ms⟩ := s
  obtain ⟨on, ops⟩ := m
  have J1 := J.l1; have J2 := J.l2; have J3 := J.on; have J4 := J.op; have I5 := I.map
  simp only at J1 J2 J3 J4 I5
  simp only [mstep] at hm
  split at hm
  · cases hm
  · rename_i hw
    simp only [not_or, ne_eq, Decidable.not_not] at hw
    obtain ⟨w0, w1, hon⟩ := hw
    split at hm
    · cases hm
    · rename_i hc
      simp only [Option.some.injEq] at hm
      subst hm
      obtain ⟨t, ht⟩ := Int.eq_ofNat_of_zero_le (show 0 ≤ x.who by omega)
      have ht6 : t < 6 := by omega
      have htt : x.who.toNat = t := by omega
      rw [htt] at hon hc ⊢
      rw [J3 t ht6] at hon
      simp only [rstep]
      rw [if_neg (by omega)]
      cases hret : x.ret with
      | false =>
        rw [hret] at hon hc
        have hnone : iget ms (t : Int) = none := by
          cases hg : iget ms (t : Int) with
          | none => rfl
          | some v => rw [hg] at hon; simp at hon
        rw [if_pos rfl, ht, hnone]
        rw [if_neg (by
          simp only [Option.getD_none]
          rintro (h1 | h1)
          · omega
          · exact hc (.inl ⟨rfl, h1⟩))]
        refine ⟨_, rfl, by simpa using J1, by simpa using J2, fun u hu => ?_, fun u k hu hk => ?_⟩
        · simp only [getD_set _ _ _ _ _ (by omega : t < on.length), iget_put]
          by_cases e : u = t
          · subst e; simp
          · rw [if_neg e, if_neg (by omega)]
            exact J3 u hu
        · simp only [getD_set _ _ _ _ _ (by omega : t < ops.length)]
          rw [iget_put] at hk
          by_cases e : u = t
          · subst e
            rw [if_pos rfl, Option.some.injEq] at hk
            have : k = out.length := by omega
            subst this
            simp [gd_app]
          · rw [if_neg (by omega)] at hk
            rw [if_neg e]
            obtain ⟨k', e', hk', _⟩ := I5 _ _ hk
            have : k = k' := by omega
            subst this
            rw [gd_app, if_pos hk']
            exact J4 u k hu hk
      | true =>
        rw [hret] at hon hc
        obtain ⟨v, hv⟩ : ∃ v, iget ms (t : Int) = some v := by
          cases hg : iget ms (t : Int) with
          | none => rw [hg] at hon; simp at hon
          | some v => exact ⟨v, rfl⟩
        obtain ⟨k0, rfl, hk0, hwho, hfin⟩ := I5 _ _ hv
        have hop := J4 t k0 ht6 hv
        have e1 : ((k0 : Int) + 1 - 1).toNat = k0 := by omega
        rw [if_neg (by simp), ht, hv]
        simp only [Option.getD_some, e1]
        rw [if_neg (by
          rintro (h1 | h1)
          · omega
          · exact hc (.inr ⟨rfl, fun e => h1 (by rw [hop, e])⟩))]
        refine ⟨_, rfl, by simpa using J1, by simpa using J2, fun u hu => ?_, fun u k hu hk => ?_⟩
        · simp only [getD_set _ _ _ _ _ (by omega : t < on.length), iget_del I.nod]
          by_cases e : u = t
          · subst e; simp
          · rw [if_neg e, if_neg (by omega)]
            exact J3 u hu
        · simp only at hk
          rw [iget_del I.nod] at hk
          by_cases e : u = t
          · subst e
            rw [if_pos rfl] at hk
            cases hk
          · rw [if_neg (by omega)] at hk
            simp only [getD_set _ _ _ _ _ (by omega : t < ops.length)]
            rw [if_neg e, gd_set _ _ _ _ hk0]
            have hkk : k ≠ k0 := fun e' => by
              subst e'
              obtain ⟨k', e2, _, hw2, _⟩ := I5 _ _ hk
              have : k' = k := by omega
              subst this
              rw [hwho] at hw2
              omega
            rw [if_neg hkk]
            exact J4 u k hu hk

theorem mrun_rrun {h : List Evt} {l : List Evt} : ∀ (i : Nat) (m m' : List Bool × List Opn) (s : List Cl × List (Int × Int)), h.drop i = l → i ≤ h.length → HInv h i s → MInv m s → mrun l m = some m' → ∃ s', rrun l i s = some s' ∧ MInv m' s' := by
  induction l with
  | nil =>
    intro i m m' s hd hi I J hm
    simp only [mrun, Option.some.injEq] at hm
    subst hm
    exact ⟨s, rfl, J⟩
  | cons x l ih =>
    intro i m m' s hd hi I J hm
    have hi' : i < h.length := by
      rcases Nat.lt_or_ge i h.length with h' | h'
      · exact h'
      · rw [List.drop_of_length_le h'] at hd; cases hd
    have hdrop := List.drop_eq_getElem_cons hi'
    rw [hd] at hdrop
    obtain ⟨hx, hl⟩ := List.cons.inj hdrop
    have hg : h.getD i default = x := by simp [List.getD_eq_getElem?_getD, hi', ← hx]
    simp only [mrun] at hm
    cases hst : mstep x m with
    | none => rw [hst] at hm; cases hm
    | some m1 =>
      rw [hst] at hm
      obtain ⟨s1, h1, J1⟩ := MInv.step I J hst
      obtain ⟨s2, h2, J2⟩ := ih (i + 1) m1 m' s1 hl.symm (by omega) (I.step hi' (by rw [hg]; exact h1)) J1 hm
      exact ⟨s2, by simp only [rrun, h1, Option.bind_some]; exact h2, J2⟩

theorem minv0 : MInv (List.replicate 6 false, List.replicate 6 ⟨0, 0, 0, 0⟩) ([], []) where
  l1 := rfl
  l2 := rfl
  on t ht := by
    match t, ht with
    | 0, _ => rfl
    | 1, _ => rfl
    | 2, _ => rfl
    | 3, _ => rfl
    | 4, _ => rfl
    | 5, _ => rfl
  op t k ht hk := by simp [iget] at hk
theorem okP_of_mayP {h : List Evt} (hm : mayP h = true) : okP h = true := by
  unfold mayP at hm
  obtain ⟨m', hm'⟩ := Option.isSome_iff_exists.1 hm
  obtain ⟨s', h1, _⟩ := mrun_rrun (h := h) 0 _ _ _ rfl (Nat.zero_le _) (HInv.zero h) minv0 hm'
  rw [List.drop_zero] at h1
  simp [okP, readP, h1]
theorem mrun_app (l r : List Evt) : ∀ m, mrun (l ++ r) m = (mrun l m).bind (mrun r) := by
  induction l with
  | nil => intro m; rfl
  | cons x l ih =>
    intro m
    simp only [List.cons_append, mrun]
    cases mstep x m with
    | none => rfl
    | some m1 => simp only [Option.bind_some]; exact ih m1
theorem mayP_take {h : List Evt} (k : Nat) (hm : mayP h = true) : mayP (h.take k) = true := by
  unfold mayP at hm ⊢
  rw [← List.take_append_drop k h, mrun_app] at hm
  cases hr : mrun (h.take k) (List.replicate 6 false, List.replicate 6 ⟨0, 0, 0, 0⟩) with
  | none => rw [hr] at hm; cases hm
  | some m => rfl

/-- From one moment on. -/
structure Ext (k : Nat) (a b : List Cl) : Prop where
  len : a.length ≤ b.length
  beg : ∀ i, i < a.length → (b.getD i default).beg = (a.getD i default).beg
  op : ∀ i, i < a.length → (b.getD i default).op = (a.getD i default).op
  fin : ∀ i, i < a.length → (b.getD i default).fin = (a.getD i default).fin ∨ ((a.getD i default).fin = -1 ∧ (k : Int) ≤ (b.getD i default).fin)
theorem Ext.refl (k : Nat) (a : List Cl) : Ext k a a := ⟨Nat.le_refl _, fun _ _ => rfl, fun _ _ => rfl, fun _ _ => .inl rfl⟩
theorem Ext.trans {k : Nat} {a b c : List Cl} (h : Ext k a b) (h' : Ext k b c) : Ext k a c where
  len := Nat.le_trans h.len h'.len
  beg i hi := (h'.beg i (Nat.lt_of_lt_of_le hi h.len)).trans (h.beg i hi)
  op i hi := (h'.op i (Nat.lt_of_lt_of_le hi h.len)).trans (h.op i hi)
  fin i hi := by
    rcases h.fin i hi with h1 | ⟨h1, h2⟩ <;> rcases h'.fin i (Nat.lt_of_lt_of_le hi h.len) with h3 | ⟨h3, h4⟩
    · exact .inl (h3.trans h1)
    · exact .inr ⟨by rw [← h1]; exact h3, h4⟩
    · exact .inr ⟨h1, by rw [h3]; exact h2⟩
    · exact .inr ⟨h1, h4⟩
theorem ext_step {h : List Evt} {k i : Nat} {s s' : List Cl × List (Int × Int)} (hk : k ≤ i) (I : HInv h i s) (hs : rstep i (h.getD i default) s = some s') : Ext k s.1 s'.1 := by
  obtain ⟨out, ms⟩ := s
  obtain ⟨_, _, hc⟩ := rstep_cases I hs
  rcases hc with ⟨_, _, _, _, rfl⟩ | ⟨_, k0, hk0, _, _, hfin, _, rfl⟩
  · refine ⟨by simp, fun j hj => ?_, fun j hj => ?_, fun j hj => .inl ?_⟩ <;> simp only [gd_app, if_pos hj]
  · refine ⟨by simp, fun j hj => ?_, fun j hj => ?_, fun j hj => ?_⟩ <;> simp only [gd_set _ _ _ _ hk0]
    · split
      · rename_i e; subst e; rfl
      · rfl
    · split
      · rename_i e; subst e; rfl
      · rfl
    · split
      · rename_i e; subst e; exact .inr ⟨hfin, by simpa using hk⟩
      · exact .inl rfl
theorem ext_run {h : List Evt} {k : Nat} {l : List Evt} : ∀ (i : Nat) (s s' : List Cl × List (Int × Int)), h.drop i = l → i ≤ h.length → k ≤ i → HInv h i s → rrun l i s = some s' → Ext k s.1 s'.1 := by
  induction l with
  | nil =>
    intro i s s' hd hi hk I hm
    simp only [rrun, Option.some.injEq] at hm
    subst hm
    exact Ext.refl _ _
  | cons x l ih =>
    intro i s s' hd hi hk I hm
    have hi' : i < h.length := by
      rcases Nat.lt_or_ge i h.length with h' | h'
      · exact h'
      · rw [List.drop_of_length_le h'] at hd; cases hd
    have hdrop := List.drop_eq_getElem_cons hi'
    rw [hd] at hdrop
    obtain ⟨hx, hl⟩ := List.cons.inj hdrop
    have hg : h.getD i default = x := by simp [List.getD_eq_getElem?_getD, hi', ← hx]
    simp only [rrun] at hm
    cases hst : rstep i x s with
    | none => rw [hst] at hm; cases hm
    | some s1 =>
      rw [hst] at hm
      exact (ext_step hk I (by rw [hg]; exact hst)).trans (ih (i + 1) s1 s' hl.symm (by omega) (by omega) (I.step hi' (by rw [hg]; exact hst)) hm)

/-- A beginning of a history that may be. -/
theorem cut_ext {h : List Evt} (k : Nat) (hk : k ≤ h.length) (hok : okP h = true) (hok' : okP (h.take k) = true) : Ext k (callsP (h.take k)) (callsP h) ∧ ∀ i, i < (callsP (h.take k)).length → ((callsP (h.take k)).getD i default).beg < (k : Int) := by
  obtain ⟨ms, hr, I⟩ := okP_inv hok
  obtain ⟨ms', hr', I'⟩ := okP_inv hok'
  have hl : (h.take k).length = k := by simp; omega
  have hsplit : rrun h 0 ([], []) = rrun (h.drop k) k (callsP (h.take k), ms') := by
    conv => lhs; rw [← List.take_append_drop k h]
    rw [rrun_app, hr', hl, Option.bind_some, Nat.zero_add]
  rw [hsplit] at hr
  have I2 : HInv h k (callsP (h.take k), ms') := by
    have hpre : ∀ j, j < k → (h.take k).getD j default = h.getD j default := fun j hj => by
      simp [List.getD_eq_getElem?_getD, List.getElem?_take, hj]
    have I1 := I'.beg; have I3 := I'.fin
    rw [hl] at I1 I3
    exact {
      nod := I'.nod
      beg := fun j hj => by
        obtain ⟨b, h1, h2, h3, h4, h5⟩ := I1 j hj
        rw [hpre b h1] at h3 h4 h5
        exact ⟨b, h1, h2, h3, h4, h5⟩
      fin := fun j hj => by
        rcases I3 j hj with h1 | ⟨f, h1, h2, h3, h4⟩
        · exact .inl h1
        · rw [hpre f h3] at h4
          exact .inr ⟨f, h1, h2, h3, h4⟩
      rise := I'.rise
      opn := I'.opn
      map := I'.map
      seq := I'.seq
      ne := fun h0 => I'.ne (by omega)
      who := I'.who }
  refine ⟨ext_run (h := h) k _ _ rfl hk (Nat.le_refl _) I2 hr, fun i hi => ?_⟩
  obtain ⟨b, h1, h2, _⟩ := I2.beg i hi
  simp only at h2
  omega
theorem cut_solo {h : List Evt} (k : Nat) (hk : k ≤ h.length) (hok : okP h = true) (hok' : okP (h.take k) = true) (hs : soloP h = true) : soloP (h.take k) = true := by
  obtain ⟨E, hb⟩ := cut_ext k hk hok hok'
  unfold soloP at hs ⊢
  rw [hok, Bool.true_and] at hs
  rw [hok', Bool.true_and]
  have hs := bof_iff.1 hs
  refine bof_true fun j h1 h2 => ?_
  have h3 := hs j h1 (by have := E.len; omega)
  have h4 := E.beg j h2
  have h5 := hb j h2
  rcases E.fin (j - 1) (by omega) with h6 | ⟨h6, h7⟩
  · rw [← h6, ← h4]; exact h3
  · omega
end Go.X
