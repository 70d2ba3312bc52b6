/- Plain laws of orders: what is not right. -/
import Derived.Test.YtjhpfaiiknpnmaaOim
import Derived.Test.YtjhpfaiiknpnmaaZ5
set_option linter.unusedVariables false
set_option linter.unusedSimpArgs false
set_option maxRecDepth 100000
namespace Go.X

theorem right_twice {b : List Pr} {h : List Evt} {l : List Int} {x : Int} (hx : x ∈ l) : rightO b h (l ++ [x]) = none := right_bad (bof_false fun ⟨_, h2, _⟩ => by
  rw [List.nodup_append] at h2
  exact h2.2.2 x hx x (by simp) rfl)
theorem right_none {b : List Pr} {h : List Evt} {l : List Int} {x : Int} (hx : ((callsP h).length : Int) ≤ x) : rightO b h (l ++ [x]) = none := right_bad (bof_false fun ⟨h1, _, _⟩ => by
  have := h1 x (by simp)
  omega)
theorem right_less {b : List Pr} {h : List Evt} {l : List Int} {k : Nat} (hk : k < l.length) (hr : (rightO b h l).isSome = true) (hf : 0 ≤ (clAt (callsP h) (l.getD k default)).fin) : rightO b h (l.take k ++ l.drop (k + 1)) = none := by
  obtain ⟨s, hs⟩ := Option.isSome_iff_exists.1 hr
  obtain ⟨_, _, h3, _, _⟩ := right_inv hs
  obtain ⟨h1, h2, h4⟩ := bof_iff.1 h3
  have hm := getD_mem' l default hk
  have hx := h1 _ hm
  refine right_bad (bof_false fun ⟨_, _, h5⟩ => ?_)
  have e : ((l.getD k default).toNat : Int) = l.getD k default := Int.toNat_of_nonneg hx.1
  have a1 := (h4 (l.getD k default).toNat (by omega) hf).1 (by rw [e]; exact hm)
  have a2 := (h5 (l.getD k default).toNat (by omega) hf).2 a1
  rw [e] at a2
  have hn := h2
  rw [split_at' l default hk, List.nodup_append, List.nodup_cons] at hn
  rcases List.mem_append.1 a2 with a2 | a2
  · exact hn.2.2 _ a2 _ (by simp) rfl
  · exact hn.2.1.1 a2
end Go.X
