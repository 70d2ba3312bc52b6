/- Plain laws of maps made of pairs. -/
import Derived.Test.YthgppaccdlcaiaaMa
set_option linter.unusedVariables false
namespace Go.X

theorem putL_asc (l : List Pr) : Asc (putL l) := by
  have key : ∀ (l s : List Pr), Asc s → Asc (l.foldl (fun s p => doL s (putOp p)) s) := by
    intro l
    induction l with
    | nil => intro s h; exact h
    | cons p r ih => intro s h; exact ih _ (doL_asc _ h)
  exact key l [] (by simp [Asc])
theorem put_look {s : List Pr} (h : Asc s) (p : Pr) (k : Int) : look (doL s (putOp p)) k = if k = p.key then some p.val else look s k := by
  rw [doL_look h (by simp [mayOpB, putOp]) (by simp [putOp]), upd1.eq_def]
  simp [putOp]
/-- The last value of a key. -/
def lastV (k : Int) (o : Option Int) (l : List Pr) : Option Int := l.foldl (fun o p => if k = p.key then some p.val else o) o
theorem puts_look (k : Int) : ∀ (l s : List Pr), Asc s → look (l.foldl (fun s p => doL s (putOp p)) s) k = lastV k (look s k) l
  | [], s, _ => rfl
  | p :: r, s, h => by
    rw [List.foldl_cons, puts_look k r _ (doL_asc _ h), put_look h]
    rfl
theorem putL_look (l : List Pr) (k : Int) : look (putL l) k = lastV k none l := puts_look k l [] (by simp [Asc])
theorem look_mem {l : List Pr} {p : Pr} (h : p ∈ l) : ∃ v, look l p.key = some v := by
  induction l with
  | nil => cases h
  | cons x r ih =>
    rw [look]
    by_cases e : x.key = p.key
    · exact ⟨x.val, if_pos e⟩
    · rw [if_neg e]
      rcases List.mem_cons.1 h with rfl | h'
      · exact absurd rfl e
      · exact ih h'
theorem lastV_key {k v : Int} : ∀ {l : List Pr} {o : Option Int}, lastV k o l = some v → o = some v ∨ ∃ p ∈ l, p.key = k
  | [], o, h => .inl h
  | p :: r, o, h => by
    rw [lastV, List.foldl_cons] at h
    rcases lastV_key (l := r) h with h' | ⟨q, hq, e⟩
    · by_cases e : k = p.key
      · exact .inr ⟨p, by simp, e.symm⟩
      · rw [if_neg e] at h'
        exact .inl h'
    · exact .inr ⟨q, by simp [hq], e⟩
theorem putL_keys {Q : Int → Prop} (l : List Pr) (h : ∀ p ∈ l, Q p.key) : ∀ p ∈ putL l, Q p.key := fun p hp => by
  obtain ⟨v, hv⟩ := look_mem hp
  rw [putL_look] at hv
  rcases lastV_key hv with h' | ⟨q, hq, e⟩
  · cases h'
  · rw [← e]
    exact h q hq
end Go.X
