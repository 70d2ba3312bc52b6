/- Plain laws of histories that may be. -/
import Derived.Test.YthgppaccdlcaiaaZa
import Derived.Test.YthgppaccdlcaiaaYf
set_option linter.unusedVariables false
set_option linter.unusedSimpArgs false
namespace Go.X

theorem okP_inv {h : List Evt} (hok : okP h = true) : ∃ ms, rrun h 0 ([], []) = some (callsP h, ms) ∧ HInv h h.length (callsP h, ms) := by
  unfold okP at hok
  obtain ⟨out, ho⟩ := Option.isSome_iff_exists.1 hok
  have hc : callsP h = out := by rw [callsP, ho]; rfl
  rw [hc]
  exact readP_inv ho
end Go.X
