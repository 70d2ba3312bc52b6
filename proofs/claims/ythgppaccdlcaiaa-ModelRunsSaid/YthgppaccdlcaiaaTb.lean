/- Plain laws of leaves: an update done twice. -/
import Derived.Test.YthgppaccdlcaiaaTa
set_option linter.unusedVariables false
set_option linter.unusedSimpArgs false
namespace Go.X

theorem okOp_of {l : List Pr} {op : Opn} (h : Asc l) (hm : mayOpB op = true) : okOp l op = true := by
  rw [okOp, bof_true ((rises_asc l).2 h), hm]; rfl
theorem may_kind {op : Opn} (hm : mayOpB op = true) : 1 ≤ op.kind ∧ op.kind ≤ 8 := by simpa [mayOpB] using hm
theorem doL_upd {l : List Pr} {op : Opn} (h : Asc l) (hm : mayOpB op = true) (hk : op.kind ≤ 3) : doL l op = oneL l op := by
  have := may_kind hm
  rw [doL, if_neg (by rw [okOp_of h hm]; simp), if_pos (by omega)]
theorem doL_read {l : List Pr} {op : Opn} (hk : 4 ≤ op.kind) : doL l op = l := by
  rw [doL]
  split
  · rfl
  · rw [if_neg (by omega)]
theorem doA_one {l : List Pr} {op : Opn} (h : Asc l) (hm : mayOpB op = true) (hk : op.kind ≤ 4) : doA l op = ansAt l (place l op.key) := by
  rw [doA, if_neg (by rw [okOp_of h hm]; simp), if_neg (by omega), if_neg (by omega), if_neg (by omega), if_neg (by omega)]
def getOp (k : Int) : Opn := ⟨4, k, 0, 0⟩
theorem doA_get {l : List Pr} (k : Int) (h : Asc l) : doA l (getOp k) = ansAt l (place l k) := doA_one (op := getOp k) h rfl (show (4 : Int) ≤ 4 by decide)

theorem upd_law {l : List Pr} {op : Opn} (h : Asc l) (h1 : 1 ≤ op.kind) (h3 : op.kind ≤ 3) :
    Asc (oneL l op) ∧ oneL (oneL l op) op = oneL l op ∧ (ansAt (oneL l op) (place (oneL l op) op.key)).ok = decide (op.kind ≠ 3) := by
  have hsel : ∀ {A C : List Pr} {x : Pr} {m : List Pr}, Inn op.key A x C m → Asc m → op.kind ≠ 3 → (op.kind = 1 → x = ⟨op.key, op.val⟩) → oneL m op = m ∧ (ansAt m (place m op.key)).ok = decide (op.kind ≠ 3) := fun {A C x m} hI hm hk hx => by
    have hp := hI.place
    refine ⟨?_, ?_⟩
    · by_cases k1 : op.kind = 1
      · rw [oneL, if_pos (.inl k1), hI.with, ← hx k1, ← hI.1]
      · rw [oneL, if_neg (by omega), if_neg (by omega)]
    · rw [hp, ansAt, if_pos (by omega)]
      simp [hk]
  have hno : ∀ {A C m : List Pr}, Out op.key A C m → op.kind = 3 → oneL m op = m ∧ (ansAt m (place m op.key)).ok = decide (op.kind ≠ 3) := fun {A C m} hO hk => by
    have hp := hO.place
    refine ⟨by rw [oneL, if_neg (by omega), if_neg (by omega)], ?_⟩
    rw [hp, ansAt, if_neg (by omega)]
    simp [hk, ans0]
  rcases one_forms op h h1 with ⟨A, C, hO, hc⟩ | ⟨A, x, C, hI, hc⟩
  · rcases hc with ⟨hk, hm⟩ | ⟨hk, hm⟩
    · have hI : Inn op.key A ⟨op.key, op.val⟩ C (oneL l op) := ⟨hm, rfl, hO.2.1, hO.2.2⟩
      have ha : Asc (oneL l op) := by rw [hm]; exact asc_app (k := op.key) (by rw [← hO.1]; exact h) hO.2.1 hO.2.2
      exact ⟨ha, hsel hI ha (by omega) fun _ => rfl⟩
    · rw [hm]
      exact ⟨h, hno hO (by omega)⟩
  · rcases hc with ⟨hk, hm⟩ | ⟨hk, hm⟩ | ⟨hk, hm⟩
    · have hI2 : Inn op.key A ⟨op.key, op.val⟩ C (oneL l op) := ⟨hm, rfl, hI.2.2.1, hI.2.2.2⟩
      have ha : Asc (oneL l op) := by
        rw [hm]
        exact asc_app (k := op.key) (asc_del (p := x) (by rw [← hI.1]; exact h)) hI.2.2.1 hI.2.2.2
      exact ⟨ha, hsel hI2 ha (by omega) fun _ => rfl⟩
    · have hO : Out op.key A C (oneL l op) := ⟨hm, hI.2.2.1, hI.2.2.2⟩
      have ha : Asc (oneL l op) := by rw [hm]; exact asc_del (p := x) (by rw [← hI.1]; exact h)
      exact ⟨ha, hno hO hk⟩
    · rw [hm]
      exact ⟨h, hsel hI h (by omega) fun hk1 => by omega⟩
theorem oneL_len (l : List Pr) (op : Opn) : (oneL l op).length ≤ l.length + 1 := by
  unfold oneL
  split
  · have := withRest_len l ⟨op.key, op.val⟩
    change _ ≤ l.length - wat op.key l at this
    unfold withL
    simp only [List.length_append, List.length_take, List.length_cons, List.length_nil]
    omega
  · split
    · simp only [List.length_append, List.length_take, List.length_drop]
      omega
    · omega
theorem doL_len (l : List Pr) (op : Opn) : (doL l op).length ≤ l.length + 1 := by
  have := oneL_len l op
  unfold doL
  split
  · omega
  · split <;> omega
end Go.X
