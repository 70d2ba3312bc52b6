/- The program logic: regions whose order is drawn and that write: the walk in the text's order, with what may float taken out. -/
import Derived.Test.YthgppaccdlcaiaaXs
set_option linter.unusedVariables false
set_option linter.unusedSimpArgs false
set_option linter.unusedSectionVars false
namespace Go.X
open Go.RowKit

abbrev Eff := List (Nat × Option Blk)
def updE : Mem → Eff → Mem
  | M, [] => M
  | M, (id, some b) :: e => updE (M.set id b) e
  | M, (id, none) :: e => updE (M.del id) e
def delL : Mem → List Nat → Mem
  | M, [] => M
  | M, id :: r => delL (M.del id) r
theorem delL_nil (M : Mem) : delL M [] = M := rfl
theorem delL_cons (M : Mem) (id : Nat) (r : List Nat) : delL M (id :: r) = delL (M.del id) r := rfl
theorem updE_nil (M : Mem) : updE M [] = M := rfl
theorem updE_some (M : Mem) (id : Nat) (b : Blk) (e : Eff) : updE M ((id, some b) :: e) = updE (M.set id b) e := rfl
theorem updE_none (M : Mem) (id : Nat) (e : Eff) : updE M ((id, none) :: e) = updE (M.del id) e := rfl
theorem delL_some {r : List Nat} : ∀ {M : Mem} {id : Nat} {b : Blk}, (delL M r) id = some b → id ∉ r ∧ M id = some b := by
  induction r with
  | nil => intro M id b h; exact ⟨by simp, h⟩
  | cons x r ih =>
    intro M id b h
    obtain ⟨h1, h2⟩ := ih (M := M.del x) h
    rw [Mem.del_app] at h2
    split at h2
    · cases h2
    · rename_i hx
      exact ⟨by simp only [List.mem_cons, not_or]; exact ⟨fun e => hx e.symm, h1⟩, h2⟩
theorem updE_congr {e : Eff} {id : Nat} : ∀ {M M' : Mem}, M id = M' id → updE M e id = updE M' e id := by
  induction e with
  | nil => intro M M' h; exact h
  | cons p e ih =>
    obtain ⟨x, b⟩ := p
    intro M M' h
    cases b with
    | none => exact ih (by simp only [Mem.del_app, h])
    | some b => exact ih (by simp only [Mem.set_app, h])
theorem updE_other {e : Eff} {id : Nat} (h : ∀ p ∈ e, p.1 ≠ id) : ∀ {M : Mem}, updE M e id = M id := by
  induction e with
  | nil => intro M; rfl
  | cons p e ih =>
    obtain ⟨x, b⟩ := p
    intro M
    have hx : x ≠ id := h (x, b) (by simp)
    have ih := @ih fun p hp => h p (by simp [hp])
    cases b with
    | none => rw [updE_none, ih, Mem.del_app, if_neg hx]
    | some b => rw [updE_some, ih, Mem.set_app, if_neg hx]

/-! ### what is read in a smaller memory is read in a greater one -/
theorem rowOf_le {M M' : Mem} (hle : M.le M') {id r c : Nat} {v : List Lf} (h : rowOf M id r c = some v) : rowOf M' id r c = some v := by
  unfold rowOf at h ⊢
  split at h
  · rename_i T rows keep hM
    rw [hle _ _ hM]; exact h
  · cases h
theorem loadA_le {P : Program} {M M' : Mem} (hle : M.le M') {t : TypeId} {a v : AV} (h : loadA P M t a = some v) : loadA P M' t a = some v := by
  unfold loadA at h ⊢
  split at h
  · exact h
  · obtain ⟨x, hx, hp⟩ := Option.bind_eq_some_iff.1 h
    simp only [rowOf_le hle hx]
    exact hp
  · cases h
theorem indexAddrA_le {P : Program} {M M' : Mem} (hle : M.le M') {t : TypeId} {a i v : AV} (h : indexAddrA P M t a i = some v) : indexAddrA P M' t a i = some v := by
  unfold indexAddrA at h ⊢
  split at h
  · split at h
    · split at h
      · exact h
      · split at h
        · rename_i hn
          split at h
          · rename_i T rows keep hM
            simp only [hle _ _ hM]
            rw [if_pos hn]; exact h
          · cases h
        · cases h
      · cases h
    · exact h
    · cases h
  · cases h
theorem entsA_le {M M' : Mem} (hle : M.le M') {m : AV} {es : List (Lf × Lf)} (h : entsA M m = some es) : entsA M' m = some es := by
  unfold entsA at h ⊢
  split at h
  · exact h
  · split at h
    · rename_i id es' hM
      simp only [hle _ _ hM]; exact h
    · cases h
  · cases h
theorem lookupA_le {P : Program} {M M' : Mem} (hle : M.le M') {t : TypeId} {m k v : AV} {ok : Bool} (h : lookupA P M t m k ok = some v) : lookupA P M' t m k ok = some v := by
  unfold lookupA at h ⊢
  split at h
  · rename_i ti es k' h1 h2
    simp only [entsA_le hle h2, h1]; exact h
  · cases h
theorem lenA_le {P : Program} {M M' : Mem} (hle : M.le M') {t : TypeId} {a v : AV} (h : lenA P M t a = some v) : lenA P M' t a = some v := by
  unfold lenA at h ⊢
  split at h
  · split at h
    · exact h
    · exact h
    · exact h
    · exact h
    · exact h
    · exact h
    · split at h
      · rename_i es hM
        simp only [hle _ _ hM]; exact h
      · cases h
    · cases h
  · cases h
theorem sliceA_le {P : Program} {M M' : Mem} (hle : M.le M') {t : TypeId} {x v : AV} {lo hi mx : Option AV} (h : sliceA P M t x lo hi mx = some v) : sliceA P M' t x lo hi mx = some v := by
  unfold sliceA at h ⊢
  split at h
  · split at h
    · exact h
    · exact h
    · split at h
      · rename_i te l hh h1 h2 h3
        split at h
        · rename_i hb
          rw [if_pos hb]
          split at h
          · rename_i h0
            rw [if_pos h0]; exact h
          · rename_i h0
            rw [if_neg h0]
            split at h
            · rename_i h4
              rw [if_pos h4]; exact h
            · rename_i h4
              rw [if_neg h4]
              split at h
              · rename_i T rows keep hM
                simp only [hle _ _ hM]; exact h
              · cases h
        · cases h
      · cases h
    · exact h
    · cases h
  · cases h
theorem srcRows_le {P : Program} {M M' : Mem} (hle : M.le M') {t tx e : TypeId} {te : TI} {x : AV} {v : List (List Lf)} (h : srcRows P M t tx e te x = some v) : srcRows P M' t tx e te x = some v := by
  unfold srcRows at h ⊢
  split at h
  · rename_i ht
    rw [if_pos ht]
    split at h
    · exact h
    · exact h
    · split at h
      · rename_i T rows keep hM
        simp only [hle _ _ hM]; exact h
      · cases h
    · cases h
  · rename_i ht
    rw [if_neg ht]; exact h
theorem storeA_le {P : Program} {M M1 : Mem} {t : TypeId} {a v : AV} (h : storeA P M t a v = some M1) : ∃ id b, M1 = M.set id b ∧ ∀ M' : Mem, M.le M' → storeA P M' t a v = some (M'.set id b) := by
  unfold storeA at h
  split at h
  · rename_i id r c vs i h1 h2
    split at h
    · rename_i T rows keep hM
      split at h
      · rename_i row hr
        split at h
        · rename_i hcond
          simp only [Option.some.injEq] at h
          refine ⟨id, _, h.symm, fun M' hle => ?_⟩
          unfold storeA
          simp only [h1, h2, hle _ _ hM, hr]
          rw [if_pos hcond]
        · cases h
      · cases h
    · cases h
  · cases h

end Go.X
