/- Maps from integers to integers. -/
import Derived.Test.YthgppaccdlcaiaaXv
set_option linter.unusedVariables false
set_option linter.unusedSimpArgs false
namespace Go.X

def ient (p : Int × Int) : Lf × Lf := (.int .i64 p.1, .int .i64 p.2)
def iget : List (Int × Int) → Int → Option Int
  | [], _ => none
  | (a, v) :: r, k => if k = a then some v else iget r k
def ifind : List (Int × Int) → Int → Nat → Option (Nat × Int)
  | [], _, _ => none
  | (a, v) :: r, k, i => if k = a then some (i, v) else ifind r k (i + 1)
def iput : List (Int × Int) → Int → Int → List (Int × Int)
  | [], k, v => [(k, v)]
  | (a, b) :: r, k, v => if k = a then (k, v) :: r else (a, b) :: iput r k v
def idel : List (Int × Int) → Int → List (Int × Int)
  | [], _ => []
  | (a, b) :: r, k => if k = a then r else (a, b) :: idel r k
def INod (ms : List (Int × Int)) : Prop := (ms.map (·.1)).Nodup

theorem iget_put (ms : List (Int × Int)) (k v k' : Int) : iget (iput ms k v) k' = if k' = k then some v else iget ms k' := by
  induction ms with
  | nil => simp [iput, iget]
  | cons p r ih =>
    obtain ⟨a, b⟩ := p
    simp only [iput]
    by_cases h : k = a
    · subst h
      by_cases h' : k' = k <;> simp [iget, h']
    · rw [if_neg h]
      simp only [iget, ih]
      by_cases h' : k' = a
      · subst h'
        rw [if_pos rfl, if_pos rfl, if_neg (fun e => h e.symm)]
      · rw [if_neg h', if_neg h']
theorem iget_mem {ms : List (Int × Int)} {k v : Int} (h : iget ms k = some v) : k ∈ ms.map (·.1) := by
  induction ms with
  | nil => cases h
  | cons p r ih =>
    obtain ⟨a, b⟩ := p
    simp only [iget] at h
    split at h
    · rename_i e; subst e; simp
    · simp only [List.map_cons, List.mem_cons]; exact .inr (ih h)
theorem iget_none {ms : List (Int × Int)} {k : Int} (h : k ∉ ms.map (·.1)) : iget ms k = none := by
  cases hg : iget ms k with
  | none => rfl
  | some v => exact absurd (iget_mem hg) h
theorem iget_del {ms : List (Int × Int)} (hn : INod ms) (k k' : Int) : iget (idel ms k) k' = if k' = k then none else iget ms k' := by
  induction ms with
  | nil => simp [idel, iget]
  | cons p r ih =>
    obtain ⟨a, b⟩ := p
    have hn' := List.nodup_cons.1 hn
    simp only [idel]
    by_cases h : k = a
    · subst h
      rw [if_pos rfl]
      by_cases h' : k' = k
      · subst h'
        rw [if_pos rfl]
        exact iget_none hn'.1
      · rw [if_neg h']
        simp [iget, h']
    · rw [if_neg h]
      simp only [iget, ih hn'.2]
      by_cases h' : k' = a
      · subst h'
        rw [if_pos rfl, if_pos rfl, if_neg (fun e => h e.symm)]
      · rw [if_neg h', if_neg h']
theorem iput_keys (ms : List (Int × Int)) (k v : Int) : ∀ x, x ∈ (iput ms k v).map (·.1) ↔ x = k ∨ x ∈ ms.map (·.1) := by
  induction ms with
  | nil => intro x; simp [iput]
  | cons p r ih =>
    obtain ⟨a, b⟩ := p
    intro x
    simp only [iput]
    by_cases h : k = a
    · subst h; simp
    · rw [if_neg h]
      simp only [List.map_cons, List.mem_cons, ih]
      constructor
      · rintro (h | h | h)
        · exact .inr (.inl h)
        · exact .inl h
        · exact .inr (.inr h)
      · rintro (h | h | h)
        · exact .inr (.inl h)
        · exact .inl h
        · exact .inr (.inr h)
theorem iput_nod {ms : List (Int × Int)} (hn : INod ms) (k v : Int) : INod (iput ms k v) := by
  induction ms with
  | nil => simp [iput, INod]
  | cons p r ih =>
    obtain ⟨a, b⟩ := p
    have hn' := List.nodup_cons.1 hn
    simp only [iput]
    by_cases h : k = a
    · subst h; rw [if_pos rfl]; exact List.nodup_cons.2 hn'
    · rw [if_neg h]
      refine List.nodup_cons.2 ⟨fun hm => ?_, ih hn'.2⟩
      rcases (iput_keys r k v a).1 hm with h' | h'
      · exact h h'.symm
      · exact hn'.1 h'
theorem idel_sub (ms : List (Int × Int)) (k : Int) : ∀ x, x ∈ (idel ms k).map (·.1) → x ∈ ms.map (·.1) := by
  induction ms with
  | nil => intro x h; exact h
  | cons p r ih =>
    obtain ⟨a, b⟩ := p
    intro x h
    simp only [idel] at h
    split at h
    · exact List.mem_cons_of_mem _ h
    · rcases List.mem_cons.1 h with h | h
      · exact List.mem_cons.2 (.inl h)
      · exact List.mem_cons_of_mem _ (ih x h)
theorem idel_nod {ms : List (Int × Int)} (hn : INod ms) (k : Int) : INod (idel ms k) := by
  induction ms with
  | nil => exact hn
  | cons p r ih =>
    obtain ⟨a, b⟩ := p
    have hn' := List.nodup_cons.1 hn
    simp only [idel]
    split
    · exact hn'.2
    · exact List.nodup_cons.2 ⟨fun hm => hn'.1 (idel_sub r k a hm), ih hn'.2⟩

theorem findA_ii (k : Int) (ms : List (Int × Int)) : ∀ j, findA (.int .i64 k) (ms.map ient) j = some ((ifind ms k j).map fun p => (p.1, .int .i64 p.2)) := by
  induction ms with
  | nil => intro j; rfl
  | cons p r ih =>
    obtain ⟨a, b⟩ := p
    intro j
    simp only [List.map_cons, ient, findA, sameK, ifind]
    by_cases h : k = a
    · simp [h]
    · simp [h, ih]
theorem ifind_get (ms : List (Int × Int)) (k : Int) : ∀ j, (ifind ms k j).map (·.2) = iget ms k := by
  induction ms with
  | nil => intro j; rfl
  | cons p r ih =>
    obtain ⟨a, b⟩ := p
    intro j
    simp only [ifind, iget]
    split
    · rfl
    · exact ih _
theorem ifind_put {ms : List (Int × Int)} {k v' : Int} : ∀ {j i : Nat} {v : Int}, ifind ms k j = some (i, v) → j ≤ i ∧ ms.set (i - j) (k, v') = iput ms k v' ∧ ms.eraseIdx (i - j) = idel ms k := by
  induction ms with
  | nil => intro j i v h; cases h
  | cons p r ih =>
    obtain ⟨a, b⟩ := p
    intro j i v h
    simp only [ifind] at h
    split at h
    · rename_i e
      simp only [Option.some.injEq, Prod.mk.injEq] at h
      obtain ⟨rfl, rfl⟩ := h
      simp [iput, idel, e]
    · rename_i e
      obtain ⟨h1, h2, h3⟩ := ih h
      refine ⟨by omega, ?_, ?_⟩
      · rw [show i - j = (i - (j + 1)) + 1 by omega]
        simp [iput, e, h2]
      · rw [show i - j = (i - (j + 1)) + 1 by omega]
        simp [idel, e, h3]
theorem ifind_none {ms : List (Int × Int)} {k v' : Int} : ∀ {j : Nat}, ifind ms k j = none → ms ++ [(k, v')] = iput ms k v' ∧ idel ms k = ms := by
  induction ms with
  | nil => intro j h; simp [iput, idel]
  | cons p r ih =>
    obtain ⟨a, b⟩ := p
    intro j h
    simp only [ifind] at h
    split at h
    · cases h
    · rename_i e
      obtain ⟨h1, h2⟩ := ih h
      simp [iput, idel, e, h1, h2]

theorem map_eraseIdx' {α β : Type} (f : α → β) : ∀ (l : List α) (i : Nat), (l.map f).eraseIdx i = (l.eraseIdx i).map f
  | [], _ => rfl
  | _ :: _, 0 => rfl
  | a :: l, i + 1 => by simp [map_eraseIdx' f l i]
structure IIMap (P : Program) (t : TypeId) : Prop where
  k : ∃ ti K E tk te, tiOf P t = some ti ∧ ti.d = .map K E ∧ tiOf P K = some tk ∧ tk.d = .int .i64 ∧ tiOf P E = some te ∧ te.zero = .l (.int .i64 0)
theorem lookup_ii {P : Program} {M : Mem} {t : TypeId} (ht : IIMap P t) {id : Nat} {ms : List (Int × Int)} (hM : M id = some (.map (ms.map ient))) (k : Int) :
    lookupA P M t (.l (.mp id)) (.l (.int .i64 k)) false = some (.l (.int .i64 ((iget ms k).getD 0))) ∧ lookupA P M t (.l (.mp id)) (.l (.int .i64 k)) true = some (.tup [.l (.int .i64 ((iget ms k).getD 0)), .l (.bool (iget ms k).isSome)]) := by
  obtain ⟨ti, K, E, tk, te, h1, h2, h3, h4, h5, h6⟩ := ht.k
  unfold lookupA entsA
  simp only [h1, hM, h2, h3, h5, h4, keyT, if_true, findA_ii]
  rw [← ifind_get ms k 0]
  cases ifind ms k 0 with
  | none => simp [h6]
  | some p => simp
theorem mapUpd_ii {P : Program} {M : Mem} {t : TypeId} (ht : IIMap P t) {id : Nat} {ms : List (Int × Int)} (hM : M id = some (.map (ms.map ient))) (k v : Int) :
    mapUpdA P M t (.l (.mp id)) (.l (.int .i64 k)) (.l (.int .i64 v)) = some (M.set id (.map ((iput ms k v).map ient))) := by
  obtain ⟨ti, K, E, tk, te, h1, h2, h3, h4, h5, h6⟩ := ht.k
  unfold mapUpdA
  simp only [h1, hM, h2, h3, h4, keyT, if_true, findA_ii]
  cases hf : ifind ms k 0 with
  | none =>
    rw [← (ifind_none (v' := v) hf).1]
    simp [ient]
  | some p =>
    obtain ⟨i, x⟩ := p
    have := (ifind_put (v' := v) hf).2.1
    rw [Nat.sub_zero] at this
    rw [← this]
    simp [ient, List.map_set]
theorem mapDel_ii {P : Program} {M : Mem} {t : TypeId} (ht : IIMap P t) {id : Nat} {ms : List (Int × Int)} (hM : M id = some (.map (ms.map ient))) (k : Int) :
    mapDelA P M t (.l (.mp id)) (.l (.int .i64 k)) = some (M.set id (.map ((idel ms k).map ient))) := by
  obtain ⟨ti, K, E, tk, te, h1, h2, h3, h4, h5, h6⟩ := ht.k
  unfold mapDelA
  simp only [h1, hM, h2, h3, h4, keyT, if_true, findA_ii]
  cases hf : ifind ms k 0 with
  | none => simp [(ifind_none (v' := 0) hf).2]
  | some p =>
    obtain ⟨i, x⟩ := p
    have := (ifind_put (v' := 0) hf).2.2
    rw [Nat.sub_zero] at this
    rw [← this]
    simp [map_eraseIdx']
end Go.X
