/- The program logic: the walk through a drawn region that writes: it holds in any order. -/
import Derived.Test.YthgppaccdlcaiaaXu
set_option linter.unusedVariables false
set_option linter.unusedSimpArgs false
set_option linter.unusedSectionVars false
namespace Go.X
open Go.RowKit

/-- The id that an operation writes (beside the new one). -/
def tOf : List (Nat × Nat) → Nat → Option Nat
  | [], _ => none
  | (j, id) :: r, i => if j = i then some id else tOf r i
/-- What may not be looked at by operation i. -/
def dOf : List (List Nat) → Nat → List Nat
  | [], _ => []
  | l :: _, 0 => l
  | _ :: r, i + 1 => dOf r i
theorem dOf_n (i : Nat) : dOf [] i = [] := by cases i <;> rfl
theorem dOf_0 (l : List Nat) (r : List (List Nat)) : dOf (l :: r) 0 = l := rfl
theorem dOf_s (l : List Nat) (r : List (List Nat)) (i : Nat) : dOf (l :: r) (i + 1) = dOf r i := rfl
def idsOf (T : List (Nat × Nat)) (n0 : Nat) : List Nat → List Nat
  | [] => []
  | j :: r => (match tOf T j with | some id => [id, n0 + j] | none => [n0 + j]) ++ idsOf T n0 r

theorem idsOf_t {T : List (Nat × Nat)} {n0 : Nat} {l : List Nat} {j id : Nat} (hj : j ∈ l) (h : tOf T j = some id) : id ∈ idsOf T n0 l := by
  induction l with
  | nil => simp at hj
  | cons k l ih =>
    simp only [idsOf, List.mem_append]
    rcases List.mem_cons.1 hj with rfl | hj
    · rw [h]; exact .inl (by simp)
    · exact .inr (ih hj)
theorem idsOf_a {T : List (Nat × Nat)} {n0 : Nat} {l : List Nat} {j : Nat} (hj : j ∈ l) : n0 + j ∈ idsOf T n0 l := by
  induction l with
  | nil => simp at hj
  | cons k l ih =>
    simp only [idsOf, List.mem_append]
    rcases List.mem_cons.1 hj with rfl | hj
    · cases h : tOf T j with
      | none => exact .inl (by simp)
      | some id => exact .inl (by simp)
    · exact .inr (ih hj)

/-- The kernel's check: TI the operations that write an id, AI those that make a new one, D what each may not look at. -/
def wOk (ops : List Oper) (TI AI : List Nat) (D : List (List Nat)) : Bool :=
  let A := ancM ops
  let an := fun i j => (A.getD i 0).testBit j
  (List.range ops.length).all (fun i =>
    (TI.all fun j => j == i || (decide (j < i) && an i j) || (decide (i < j) && an j i) || (dOf D i).contains j) &&
    (AI.all fun j => !decide (j < i) || an i j || (dOf D i).contains j)) &&
  (TI.all fun j => TI.all fun j' => !decide (j < j') || an j' j) &&
  (AI.all fun k => TI.all fun j => !decide (k < j) || an j k)

structure WSpec (ops : List Oper) (TI AI : List Nat) (D : List (List Nat)) : Prop where
  t : ∀ i, i < ops.length → ∀ j ∈ TI, j = i ∨ (j < i ∧ anc ops i j = true) ∨ (i < j ∧ anc ops j i = true) ∨ j ∈ dOf D i
  a : ∀ i, i < ops.length → ∀ j ∈ AI, j < i → anc ops i j = true ∨ j ∈ dOf D i
  tt : ∀ j ∈ TI, ∀ j' ∈ TI, j < j' → anc ops j' j = true
  at' : ∀ k ∈ AI, ∀ j ∈ TI, k < j → anc ops j k = true

theorem wOk_get {ops : List Oper} {TI AI : List Nat} {D : List (List Nat)} (h : wOk ops TI AI D = true) : WSpec ops TI AI D := by
  simp only [wOk, Bool.and_eq_true, List.all_eq_true, List.mem_range, Bool.or_eq_true, decide_eq_true_eq, beq_iff_eq, Bool.not_eq_true', decide_eq_false_iff_not, List.contains_iff_mem] at h
  obtain ⟨⟨h1, h2⟩, h3⟩ := h
  refine ⟨fun i hi j hj => ?_, fun i hi j hj hji => ?_, fun j hj j' hj' hlt => ?_, fun k hk j hj hlt => ?_⟩
  · rcases (h1 i hi).1 j hj with ((h | h) | h) | h
    · exact .inl h
    · exact .inr (.inl h)
    · exact .inr (.inr (.inl h))
    · exact .inr (.inr (.inr h))
  · rcases (h1 i hi).2 j hj with (h | h) | h
    · exact absurd hji h
    · exact .inl h
    · exact .inr h
  · rcases h2 j hj j' hj' with h | h
    · exact absurd hlt h
    · exact h
  · rcases h3 k hk j hj with h | h
    · exact absurd hlt h
    · exact h

/-- An operation's effect is on what it may write. -/
def tch (T : List (Nat × Nat)) (AI : List Nat) (n0 i : Nat) : Eff → Prop
  | [] => True
  | (id, _) :: e => ((id = n0 + i ∧ i ∈ AI) ∨ tOf T i = some id) ∧ tch T AI n0 i e
theorem tch_mem {T : List (Nat × Nat)} {AI : List Nat} {n0 i : Nat} {e : Eff} (h : tch T AI n0 i e) : ∀ p ∈ e, (p.1 = n0 + i ∧ i ∈ AI) ∨ tOf T i = some p.1 := by
  induction e with
  | nil => intro p hp; simp at hp
  | cons q e ih =>
    intro p hp
    rcases List.mem_cons.1 hp with rfl | hp
    · exact h.1
    · exact ih h.2 p hp

def vdw (P : Program) (ops : List Oper) (T : List (Nat × Nat)) (AI : List Nat) (D : List (List Nat)) (n0 : Nat) : List Oper → Nat → (Fr → Mem → Prop) → Fr → Mem → Prop
  | [], _, K, fr, M => K fr M
  | o :: rest, i, K, fr, M =>
    match o.guard with
    | none => wop P o.op fr (delL M (idsOf T n0 (dOf D i))) (n0 + i) fun v e => tch T AI n0 i e ∧ vdw P ops T AI D n0 rest (i + 1) K (updO fr o.dst v) (updE M e)
    | some (j, u) => match gslot ops j with
      | some d => gK (fr d) u (wop P o.op fr (delL M (idsOf T n0 (dOf D i))) (n0 + i) fun v e => tch T AI n0 i e ∧ vdw P ops T AI D n0 rest (i + 1) K (updO fr o.dst v) (updE M e)) (vdw P ops T AI D n0 rest (i + 1) K (updO fr o.dst (.tup [])) M)
      | none => False

/-- The memory, when the operations of L among the first k are done. -/
def memL (M : Mem) (E : Nat → Eff) (L : Nat → Bool) : Nat → Mem
  | 0 => M
  | k + 1 => if L k then updE (memL M E L k) (E k) else memL M E L k
def memT (M : Mem) (E : Nat → Eff) : Nat → Mem
  | 0 => M
  | k + 1 => updE (memT M E k) (E k)
def Touch (E : Nat → Eff) (j id : Nat) : Prop := ∃ p ∈ E j, p.1 = id

theorem memL_agree {M : Mem} {E : Nat → Eff} {L L' : Nat → Bool} {id : Nat} : ∀ k, (∀ j, j < k → Touch E j id → L j = L' j) → memL M E L k id = memL M E L' k id := by
  intro k
  induction k with
  | zero => intro _; rfl
  | succ k ih =>
    intro h
    have ih := ih fun j hj => h j (by omega)
    unfold memL
    by_cases ht : Touch E k id
    · rw [h k (by omega) ht]
      split
      · exact updE_congr ih
      · exact ih
    · have hn : ∀ p ∈ E k, p.1 ≠ id := fun p hp he => ht ⟨p, hp, he⟩
      split <;> split
      · rw [updE_other hn, updE_other hn, ih]
      · rw [updE_other hn, ih]
      · rw [updE_other hn, ih]
      · exact ih
theorem memL_T {M : Mem} {E : Nat → Eff} {L : Nat → Bool} {id i : Nat} : ∀ k, (∀ j, j < k → Touch E j id → L j = decide (j < i)) → memL M E L k id = memT M E (min k i) id := by
  intro k
  induction k with
  | zero => intro _; simp [memL, memT]
  | succ k ih =>
    intro h
    have ih := ih fun j hj => h j (by omega)
    unfold memL
    by_cases hki : k < i
    · rw [show min (k + 1) i = min k i + 1 by omega, memT]
      rw [show min k i = k by omega] at ih ⊢
      by_cases ht : Touch E k id
      · rw [h k (by omega) ht, if_pos (by simp [hki])]
        exact updE_congr ih
      · have hn : ∀ p ∈ E k, p.1 ≠ id := fun p hp he => ht ⟨p, hp, he⟩
        rw [updE_other hn]
        split
        · rw [updE_other hn, ih]
        · exact ih
    · rw [show min (k + 1) i = min k i by omega]
      by_cases ht : Touch E k id
      · rw [h k (by omega) ht, if_neg (by simp [hki])]
        exact ih
      · have hn : ∀ p ∈ E k, p.1 ≠ id := fun p hp he => ht ⟨p, hp, he⟩
        split
        · rw [updE_other hn, ih]
        · exact ih
theorem memL_after {M : Mem} {E : Nat → Eff} {L : Nat → Bool} {id i : Nat} : ∀ k, i ≤ k → (∀ j, i ≤ j → j < k → Touch E j id → L j = false) → memL M E L k id = memL M E L i id := by
  intro k
  induction k with
  | zero => intro h _; rw [Nat.le_zero.1 h]
  | succ k ih =>
    intro hik h
    by_cases he : i = k + 1
    · rw [he]
    · have ih := ih (by omega) fun j h1 h2 => h j h1 (by omega)
      rw [← ih, memL]
      by_cases ht : Touch E k id
      · rw [if_neg (by rw [h k (by omega) (by omega) ht]; simp)]
      · have hn : ∀ p ∈ E k, p.1 ≠ id := fun p hp he => ht ⟨p, hp, he⟩
        split
        · rw [updE_other hn]
        · rfl
theorem memL_all {M : Mem} {E : Nat → Eff} {L : Nat → Bool} : ∀ k, (∀ j, j < k → L j = true) → memL M E L k = memT M E k := by
  intro k
  induction k with
  | zero => intro _; rfl
  | succ k ih =>
    intro h
    unfold memL memT
    rw [if_pos (h k (by omega)), ih fun j hj => h j (by omega)]
theorem memL_none {M : Mem} {E : Nat → Eff} {L : Nat → Bool} : ∀ k, (∀ j, j < k → L j = false) → memL M E L k = M := by
  intro k
  induction k with
  | zero => intro _; rfl
  | succ k ih =>
    intro h
    unfold memL
    rw [if_neg (by rw [h k (by omega)]; simp), ih fun j hj => h j (by omega)]
theorem memT_congr {M : Mem} {E E' : Nat → Eff} : ∀ k, (∀ j, j < k → E j = E' j) → memT M E k = memT M E' k := by
  intro k
  induction k with
  | zero => intro h; rfl
  | succ k ih =>
    intro h
    unfold memT
    rw [h k (by omega), ih fun j hj => h j (by omega)]

section
variable {P : Program} {ops : List Oper} {T : List (Nat × Nat)} {AI : List Nat} {D : List (List Nat)} {n0 : Nat} {fr : Fr} {M : Mem}

structure WStep (P : Program) (ops : List Oper) (T : List (Nat × Nat)) (AI : List Nat) (D : List (List Nat)) (n0 : Nat) (fr : Fr) (M : Mem) (v : Nat → AV) (E : Nat → Eff) (i : Nat) (o : Oper) : Prop where
  tch : tch T AI n0 i (E i)
  run : ∃ b, Runs ops o (frT ops v fr i) b ∧ (b = false → v i = .tup [] ∧ E i = []) ∧
    (b = true → ∀ M', (delL (memT M E i) (idsOf T n0 (dOf D i))).le M' → M' (n0 + i) = none → vopcG (fun F => F (n0 + i)) P o.op (frT ops v fr i) M' fun x M'' => x = v i ∧ (updE M' (E i)).le M'')

theorem vdw_steps {K : Fr → Mem → Prop} (rest : List Oper) : ∀ (k : Nat) (v : Nat → AV) (E : Nat → Eff), k ≤ ops.length → ops.drop k = rest →
    (∀ i o, i < k → ops[i]? = some o → WStep P ops T AI D n0 fr M v E i o) → vdw P ops T AI D n0 rest k K (frT ops v fr k) (memT M E k) →
    ∃ v E, (∀ i o, ops[i]? = some o → WStep P ops T AI D n0 fr M v E i o) ∧ K (frT ops v fr ops.length) (memT M E ops.length) := by
  induction rest with
  | nil =>
    intro k v E hkl hd hf h
    have hk : ops.length ≤ k := by
      have := congrArg List.length hd
      simp at this
      omega
    have hkl : k = ops.length := by omega
    subst hkl
    exact ⟨v, E, fun i o ho => hf i o (List.getElem?_eq_some_iff.1 ho).1 ho, h⟩
  | cons o rest ih =>
    intro k v E hkl hd hf h
    have hok : ops[k]? = some o := by
      have := congrArg List.head? hd
      rw [List.head?_drop] at this
      simpa using this
    have hdst : dstOf ops k = o.dst := by simp [dstOf, hok]
    have next : ∀ (u : AV) (e : Eff) (b : Bool), Runs ops o (frT ops v fr k) b → (b = false → u = .tup [] ∧ e = []) → tch T AI n0 k e →
        (b = true → ∀ M', (delL (memT M E k) (idsOf T n0 (dOf D k))).le M' → M' (n0 + k) = none → vopcG (fun F => F (n0 + k)) P o.op (frT ops v fr k) M' fun x M'' => x = u ∧ (updE M' e).le M'') →
        vdw P ops T AI D n0 rest (k + 1) K (updO (frT ops v fr k) o.dst u) (updE (memT M E k) e) →
        ∃ v E, (∀ i o, ops[i]? = some o → WStep P ops T AI D n0 fr M v E i o) ∧ K (frT ops v fr ops.length) (memT M E ops.length) := by
      intro u e b hr hb ht hv hk
      have hcong : ∀ i, i ≤ k → frT ops (fun j => if j = k then u else v j) fr i = frT ops v fr i := fun i hi => frT_congr i fun j hj => by
        have : j ≠ k := by omega
        simp [this]
      have hcongM : ∀ i, i ≤ k → memT M (fun j => if j = k then e else E j) i = memT M E i := fun i hi => memT_congr i fun j hj => by
        have : j ≠ k := by omega
        simp [this]
      refine ih (k + 1) (fun j => if j = k then u else v j) (fun j => if j = k then e else E j) (by have := (List.getElem?_eq_some_iff.1 hok).1; omega) (by rw [← List.drop_drop, hd]; rfl) (fun i o' hi ho' => ?_) ?_
      · by_cases hik : i = k
        · subst hik
          rw [hok, Option.some.injEq] at ho'
          subst ho'
          refine ⟨by simpa using ht, b, by rw [hcong i (by omega)]; exact hr, fun h => by simpa using hb h, fun h M' hle hn => ?_⟩
          rw [hcongM i (by omega)] at hle
          rw [hcong i (by omega)]
          simpa using hv h M' hle hn
        · have hs := hf i o' (by omega) ho'
          obtain ⟨b', h1, h2, h3⟩ := hs.run
          refine ⟨by simpa [hik] using hs.tch, b', by rw [hcong i (by omega)]; exact h1, fun h => by simpa [hik] using h2 h, fun h M' hle hn => ?_⟩
          rw [hcongM i (by omega)] at hle
          rw [hcong i (by omega)]
          simpa [hik] using h3 h M' hle hn
      · rw [frT, memT, hcong k (Nat.le_refl _), hcongM k (Nat.le_refl _), hdst]
        simpa using hk
    simp only [vdw] at h
    split at h
    · rename_i hg
      obtain ⟨u, e, ⟨ht, hc⟩, hv⟩ := wop_sound h
      exact next u e true (by simp [Runs, hg]) (by simp) ht (fun _ => hv) hc
    · rename_i j u hg
      split at h
      · rename_i d hgs
        unfold gK at h
        split at h
        · rename_i c hfd
          by_cases hcu : c = u
          · subst hcu
            obtain ⟨x, e, ⟨ht, hc⟩, hv⟩ := wop_sound (h.1 rfl)
            exact next x e true (by rw [Runs, hg]; exact ⟨d, hgs, .inl ⟨c, hfd, by simp⟩⟩) (by simp) ht (fun _ => hv) hc
          · have hcu' : c = !u := by revert hcu; cases c <;> cases u <;> simp
            exact next (.tup []) [] false (by rw [Runs, hg]; exact ⟨d, hgs, .inl ⟨c, hfd, by simp [hcu]⟩⟩) (fun _ => ⟨rfl, rfl⟩) trivial (by simp) (h.2 hcu')
        · rename_i hfd
          exact next (.tup []) [] false (by rw [Runs, hg]; exact ⟨d, hgs, .inr ⟨hfd, rfl⟩⟩) (fun _ => ⟨rfl, rfl⟩) trivial (by simp) h
        · exact h.elim
      · exact h.elim

/-- The ids that are written are old ones, or new ones of earlier operations. -/
def TOk (T : List (Nat × Nat)) (AI : List Nat) (n0 : Nat) : Prop := ∀ j id, tOf T j = some id → id < n0 ∨ ∃ k, k ∈ AI ∧ k < j ∧ id = n0 + k

theorem tOf_mem {T : List (Nat × Nat)} {j id : Nat} (h : tOf T j = some id) : j ∈ T.map (·.1) := by
  induction T with
  | nil => cases h
  | cons p T ih =>
    obtain ⟨a, b⟩ := p
    simp only [tOf] at h
    split at h
    · rename_i he; subst he; simp
    · simp only [List.map_cons, List.mem_cons]; exact .inr (ih h)

theorem w_plan (hd : drawOk ops = true) (hw : wOk ops (T.map (·.1)) AI D = true) (hT : TOk T AI n0) (hM : ∀ j, n0 ≤ j → M j = none) {v : Nat → AV} {E : Nat → Eff}
    (hs : ∀ i o, ops[i]? = some o → WStep P ops T AI D n0 fr M v E i o) : Plan P ops fr n0 v (fun L => memL M E L ops.length) := by
  have W := wOk_get hw
  have touch : ∀ j, j < ops.length → ∀ id, Touch E j id → (id = n0 + j ∧ j ∈ AI) ∨ (tOf T j = some id ∧ j ∈ T.map (·.1)) := by
    rintro j hj id ⟨p, hp, rfl⟩
    rcases tch_mem (hs j _ (List.getElem?_eq_getElem hj)).tch p hp with h | h
    · exact .inl h
    · exact .inr ⟨h, tOf_mem h⟩
  have small : ∀ j id, tOf T j = some id → id < n0 + j := fun j id h => by
    rcases hT j id h with h | ⟨k, _, hk, rfl⟩ <;> omega
  refine ⟨fun i o ho => ?_⟩
  have hi := (List.getElem?_eq_some_iff.1 ho).1
  obtain ⟨htch, b, hr, hb, hv⟩ := hs i o ho
  refine ⟨b, hr, fun h => (hb h).1, fun L hc hL hp => ?_⟩
  have up : ∀ j, j < ops.length → anc ops j i = true → L j = false := fun j hj ha => by
    refine Bool.eq_false_iff.2 fun hLj => ?_
    have hjo : ops[j]? = some ops[j] := List.getElem?_eq_getElem hj
    have := anc_sound hc hjo (hc j _ hjo hLj) ha
    rw [hL] at this; cases this
  -- (A)
  have hA : (delL (memT M E i) (idsOf T n0 (dOf D i))).le (memL M E L ops.length) := by
    intro id bk hbk
    obtain ⟨hnd, hbk⟩ := delL_some hbk
    have := memL_T (M := M) (E := E) (L := L) (id := id) (i := i) ops.length fun j hj ht => by
      rcases touch j hj id ht with ⟨rfl, hja⟩ | ⟨hjt, hjT⟩
      · by_cases hji : j < i
        · rcases W.a i hi j hja hji with h | h
          · rw [anc_sound hc ho hp h]; simp [hji]
          · exact absurd (idsOf_a h) hnd
        · by_cases hje : j = i
          · subst hje; rw [hL]; simp
          · -- it is not there yet
            have hno : memT M E i (n0 + j) = none := by
              have h0 : ∀ k, k ≤ i → memT M E k (n0 + j) = none := by
                intro k
                induction k with
                | zero => intro _; exact hM _ (by omega)
                | succ k ih =>
                  intro hk
                  rw [memT, updE_other, ih (by omega)]
                  intro p hp2 he
                  rcases touch k (by omega) (n0 + j) ⟨p, hp2, he⟩ with ⟨h, _⟩ | ⟨h, _⟩
                  · omega
                  · have := small k _ h; omega
              exact h0 i (Nat.le_refl _)
            rw [hno] at hbk
            cases hbk
      · rcases W.t i hi j hjT with rfl | ⟨h1, h2⟩ | ⟨h1, h2⟩ | h
        · rw [hL]; simp
        · rw [anc_sound hc ho hp h2]; simp [h1]
        · rw [up j hj h2]
          have : ¬ j < i := by omega
          simp [this]
        · exact absurd (idsOf_t h hjt) hnd
    rw [this, Nat.min_eq_right (by omega)]
    exact hbk
  -- what comes after i in L doesn't touch what i touches
  have later : ∀ id, Touch E i id → ∀ j, i < j → j < ops.length → Touch E j id → L j = false := by
    intro id hti j hij hj htj
    rcases touch j hj id htj with ⟨rfl, hja⟩ | ⟨hjt, hjT⟩
    · rcases touch i hi _ hti with ⟨h, _⟩ | ⟨h, _⟩
      · omega
      · have := small i _ h; omega
    · rcases touch i hi id hti with ⟨rfl, hia⟩ | ⟨_, hiT⟩
      · exact up j hj (W.at' i hia j hjT hij)
      · exact up j hj (W.tt i hiT j hjT hij)
  -- (B)
  have hB : ∀ id, memL M E (ins L i) ops.length id = updE (memL M E L ops.length) (E i) id := by
    intro id
    by_cases ht : Touch E i id
    · have e1 := memL_after (M := M) (E := E) (L := ins L i) (id := id) (i := i + 1) ops.length (by omega) fun j h1 h2 h3 => by
        simp only [ins, Bool.or_eq_false_iff, decide_eq_false_iff_not]
        exact ⟨by omega, later id ht j (by omega) h2 h3⟩
      have e2 := memL_after (M := M) (E := E) (L := L) (id := id) (i := i) ops.length (by omega) fun j h1 h2 h3 => by
        by_cases hji : j = i
        · subst hji; exact hL
        · exact later id ht j (by omega) h2 h3
      have e3 := memL_agree (M := M) (E := E) (L := ins L i) (L' := L) (id := id) i fun j hj _ => by
        have : j ≠ i := by omega
        simp [ins, this]
      rw [e1, memL, if_pos (by simp [ins])]
      exact updE_congr (by rw [e2, e3])
    · have hn : ∀ p ∈ E i, p.1 ≠ id := fun p hp he => ht ⟨p, hp, he⟩
      rw [updE_other hn]
      refine memL_agree ops.length fun j hj htj => ?_
      have : j ≠ i := fun e => ht (e ▸ htj)
      simp [ins, this]
  -- (C)
  have hC : i ∈ AI ∨ i ∉ AI → memL M E L ops.length (n0 + i) = none := by
    intro hia
    have e1 : memL M E L ops.length (n0 + i) = memL M E (fun _ => false) ops.length (n0 + i) := memL_agree ops.length fun j hj htj => by
      rcases touch j hj _ htj with ⟨h, _⟩ | ⟨h, hjT⟩
      · have : j = i := by omega
        subst this; exact hL
      · rcases hT j _ h with h | ⟨k, hk, hkj, h⟩
        · omega
        · have : k = i := by omega
          subst this
          exact up j hj (W.at' k hk j hjT hkj)
    rw [e1, memL_none ops.length fun _ _ => rfl]
    exact hM _ (by omega)
  have hCC := hC (Classical.em _)
  refine ⟨fun h => ⟨hCC, ?_⟩, fun h => ?_⟩
  · have := hv h _ hA hCC
    have heq : memL M E (ins L i) ops.length = updE (memL M E L ops.length) (E i) := funext hB
    rw [heq]
    exact this
  · have heq : memL M E (ins L i) ops.length = updE (memL M E L ops.length) (E i) := funext hB
    rw [heq, (hb h).2]
    exact Mem.le_refl _

/-- A drawn region that writes. -/
theorem xwrite {n id : Nat} {K : Fr → Mem → Prop} (T : Nat → List (Nat × Nat)) (TI AI : List Nat) (D : List (List Nat)) (hmix : P.follows .mixedOrders = true) (hok : opsOk n ops = true) (hd : drawOk ops = true) (hw : wOk ops TI AI D = true)
    (h : ∀ n0, (∀ j, n0 ≤ j → M j = none) → (T n0).map (·.1) = TI ∧ TOk (T n0) AI n0 ∧ vdw P ops (T n0) AI D n0 ops 0 K fr M) : @drawI P n id ops.toArray fr M ⟨K⟩ :=
  drawI_of (xdraw hmix hok hd fun n0 hn0 => by
    obtain ⟨h1, h2, h3⟩ := h n0 hn0
    obtain ⟨v, E, hs, hk⟩ := vdw_steps (P := P) (ops := ops) (T := T n0) (AI := AI) (D := D) (n0 := n0) (fr := fr) (M := M) ops 0 (fun _ => .any) (fun _ => []) (Nat.zero_le _) rfl (fun i o hi => by omega) h3
    exact ⟨v, fun L => memL M E L ops.length, memT M E ops.length, w_plan hd (by rw [h1]; exact hw) h2 hn0 hs, fun L hL => by show (memL M E L ops.length).le M; rw [memL_none ops.length fun j _ => hL j]; exact Mem.le_refl _,
      fun L hL => by show (memT M E ops.length).le (memL M E L ops.length); rw [memL_all ops.length hL]; exact Mem.le_refl _, hk⟩)
end

/-! ### the walk's equations -/
section
variable (P : Program) (fr : Fr) (M : Mem) (nid : Nat) (C : AV → Eff → Prop)
theorem vdw_nil (ops : List Oper) (T : List (Nat × Nat)) (AI : List Nat) (D : List (List Nat)) (n0 i : Nat) (K : Fr → Mem → Prop) : vdw P ops T AI D n0 [] i K fr M = K fr M := rfl
theorem vdw_plain (ops : List Oper) (T : List (Nat × Nat)) (AI : List Nat) (D : List (List Nat)) (n0 i : Nat) (dst : Option Tmp) (op : Op) (type : TypeId) (pos : String) (after : Array Edge) (rest : List Oper) (K : Fr → Mem → Prop) :
    vdw P ops T AI D n0 (⟨dst, op, type, pos, after, none⟩ :: rest) i K fr M = wop P op fr (delL M (idsOf T n0 (dOf D i))) (n0 + i) fun v e => tch T AI n0 i e ∧ vdw P ops T AI D n0 rest (i + 1) K (updO fr dst v) (updE M e) := rfl
theorem vdw_guard (ops : List Oper) (T : List (Nat × Nat)) (AI : List Nat) (D : List (List Nat)) (n0 i : Nat) (dst : Option Tmp) (op : Op) (type : TypeId) (pos : String) (after : Array Edge) (j : Nat) (u : Bool) (rest : List Oper) (K : Fr → Mem → Prop) :
    vdw P ops T AI D n0 (⟨dst, op, type, pos, after, some (j, u)⟩ :: rest) i K fr M = @optI _ (gslot ops j) ⟨fun d => @gI (fr d) u ⟨wop P op fr (delL M (idsOf T n0 (dOf D i))) (n0 + i) fun v e => tch T AI n0 i e ∧ vdw P ops T AI D n0 rest (i + 1) K (updO fr dst v) (updE M e)⟩ ⟨vdw P ops T AI D n0 rest (i + 1) K (updO fr dst (.tup [])) M⟩⟩ := by
  unfold optI optK
  simp only [vdw]
  cases gslot ops j <;> rfl
theorem wo_move (x : Operand) : wop P (.move x) fr M nid C = @valI (ev fr x) ⟨fun v => C v []⟩ := rfl
theorem wo_assign (x : Operand) : wop P (.assign x) fr M nid C = @valI (ev fr x) ⟨fun v => C v []⟩ := rfl
theorem wo_pick (c a b : Operand) : wop P (.pick c a b) fr M nid C = @pickI (ev fr c) (ev fr a) (ev fr b) ⟨fun v => C v []⟩ := rfl
theorem wo_alloc (T : TypeId) : wop P (.alloc T) fr M nid C = @optI _ (tiOf P T) ⟨fun i => @optI _ (avCells i.zero) ⟨fun cs => cs.length = i.size ∧ C (.l (.ptr nid 0 0)) [(nid, some (.cells T [cs] 0))]⟩⟩ := rfl
theorem wo_box (T : TypeId) (x : Operand) : wop P (.box T x) fr M nid C = @optI _ (tiOf P T) ⟨fun i => @optI _ (avCells (ev fr x)) ⟨fun cs => cs.length = i.size ∧ C (.l (.ptr nid 0 0)) [(nid, some (.cells T [cs] 0))]⟩⟩ := rfl
theorem wo_build (t : TypeId) (l : List (Nat × Operand)) : wop P (.build t l.toArray) fr M nid C = @optI _ (buildA P t (l.map fun p => (p.1, ev fr p.2))) ⟨fun v => C v []⟩ := rfl
theorem wo_buildSlice (t : TypeId) (len : Nat) (l : List (Nat × Operand)) : wop P (.buildSlice t len l.toArray) fr M nid C = @optI _ (buildSliceA P t len (l.map fun p => (p.1, ev fr p.2))) ⟨fun r => C (.l (.ms nid 0 len)) [(nid, some (.cells r.1 r.2 0))]⟩ := rfl
theorem wo_load (t : TypeId) (x : Operand) : wop P (.load t x) fr M nid C = @optI _ (loadA P M t (ev fr x)) ⟨fun v => C v []⟩ := rfl
theorem wo_store (t : TypeId) (x v : Operand) : wop P (.store t x v) fr M nid C = @optI _ (storeE P M t (ev fr x) (ev fr v)) ⟨fun p => C .any [(p.1, some p.2)]⟩ := rfl
theorem wo_nilCheck (x : Operand) : wop P (.nilCheck x) fr M nid C = @optI _ (nilChk (ev fr x)) ⟨fun v => C v []⟩ := rfl
theorem wo_binOp (op : BinOp) (t : TypeId) (x y : Operand) (u : TypeId) : wop P (.binOp op t x y u) fr M nid C = (isNilS y = false ∧ @binI P op t x y (ev fr x) (ev fr y) ⟨fun v => C v []⟩) := rfl
theorem wo_unOp (op : UnOp) (t : TypeId) (x : Operand) : wop P (.unOp op t x) fr M nid C = @optI _ (unA op (ev fr x)) ⟨fun v => C v []⟩ := rfl
theorem wo_convert (s d : TypeId) (x : Operand) : wop P (.convert s d x) fr M nid C = @optI _ (convA P s d (ev fr x)) ⟨fun v => C v []⟩ := rfl
theorem wo_slice (t : TypeId) (x : Operand) (lo hi mx : Option Operand) : wop P (.slice t x lo hi mx) fr M nid C = @optI _ (sliceA P M t (ev fr x) (lo.map (ev fr)) (hi.map (ev fr)) (mx.map (ev fr))) ⟨fun v => C v []⟩ := rfl
theorem wo_fieldAddr (s : TypeId) (x : Operand) (f : Nat) : wop P (.fieldAddr s x f) fr M nid C = @optI _ (fieldAddrA P s (ev fr x) f) ⟨fun v => C v []⟩ := rfl
theorem wo_field (s : TypeId) (x : Operand) (f : Nat) : wop P (.field s x f) fr M nid C = @optI _ (fieldA P s (ev fr x) f) ⟨fun v => C v []⟩ := rfl
theorem wo_indexAddr (t : TypeId) (x i : Operand) : wop P (.indexAddr t x i) fr M nid C = @optI _ (indexAddrA P M t (ev fr x) (ev fr i)) ⟨fun v => C v []⟩ := rfl
theorem wo_index (t : TypeId) (x i : Operand) : wop P (.index t x i) fr M nid C = @optI _ (indexA P t (ev fr x) (ev fr i)) ⟨fun v => C v []⟩ := rfl
theorem wo_lookup (t : TypeId) (m k : Operand) (ok : Bool) : wop P (.lookup t m k ok) fr M nid C = @optI _ (lookupA P M t (ev fr m) (ev fr k) ok) ⟨fun v => C v []⟩ := rfl
theorem wo_extract (x : Operand) (i : Nat) : wop P (.extract x i) fr M nid C = @optI _ (extractA (ev fr x) i) ⟨fun v => C v []⟩ := rfl
theorem wo_call (f : FuncId) (l : List Operand) (ts : Array TypeId) : wop P (.call ⟨.value (.func f), l.toArray, ts⟩) fr M nid C = @wcallI P f (l.map (ev fr)) M ⟨C⟩ := rfl
theorem wo_len (x : Operand) (t : TypeId) : wop P (.call ⟨.builtin .len, #[x], #[t]⟩) fr M nid C = @optI _ (lenA P M t (ev fr x)) ⟨fun v => C v []⟩ := rfl
def wappI (P : Program) (M : Mem) (nid : Nat) (t tx : TypeId) (s x : AV) [c : KonE] : Prop := wapp P M nid t tx s x c.k
theorem wo_append (x y : Operand) (t tx : TypeId) : wop P (.call ⟨.builtin .append, #[x, y], #[t, tx]⟩) fr M nid C = @wappI P M nid t tx (ev fr x) (ev fr y) ⟨C⟩ := rfl
end
end Go.X
