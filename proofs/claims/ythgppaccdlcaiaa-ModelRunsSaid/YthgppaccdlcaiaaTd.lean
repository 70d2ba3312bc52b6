/- Plain laws of leaves: ranges. -/
import Derived.Test.YthgppaccdlcaiaaTc
set_option linter.unusedVariables false
set_option linter.unusedSimpArgs false
namespace Go.X

def rangeOp (lo hi : Int) : Opn := ⟨5, lo, hi, 0⟩
def countOp (lo hi : Int) : Opn := ⟨6, lo, hi, 0⟩
def rng (l : List Pr) (lo hi : Int) : List Pr := stays (outside lo hi) l
theorem doA_range {l : List Pr} (h : Asc l) (lo hi : Int) : doA l (rangeOp lo hi) = ⟨0, false, ⟨0, 0⟩, (rng l lo hi).length, rng l lo hi⟩ := by
  rw [doA, if_neg (by rw [okOp_of h rfl]; simp), if_pos (show (rangeOp lo hi).kind = 5 from rfl)]
  rfl
theorem doA_count {l : List Pr} (h : Asc l) (lo hi : Int) : doA l (countOp lo hi) = ⟨0, false, ⟨0, 0⟩, (rng l lo hi).length, []⟩ := by
  rw [doA, if_neg (by rw [okOp_of h rfl]; simp), if_neg (show ¬ (countOp lo hi).kind = 5 by show ¬ (6 : Int) = 5; decide), if_pos (show (countOp lo hi).kind = 6 from rfl)]
  rfl
theorem rng_asc {l : List Pr} (h : Asc l) (lo hi : Int) : Asc (rng l lo hi) := List.Pairwise.sublist List.filter_sublist h
theorem rng_cons (x : Pr) (r : List Pr) (lo hi : Int) : rng (x :: r) lo hi = if outside lo hi x then rng r lo hi else x :: rng r lo hi := by
  simp only [rng, stays, List.filter_cons]
  cases outside lo hi x <;> simp
theorem rng_none {r : List Pr} {lo hi : Int} (h : ∀ b ∈ r, hi < b.key) : rng r lo hi = [] := by
  unfold rng stays
  rw [List.filter_eq_nil_iff]
  intro b hb
  have := h b hb
  simp [outside]
  omega
/-- Two ranges side by side are one. -/
theorem rng_join (lo mid hi : Int) (h1 : lo ≤ mid) (h2 : mid ≤ hi) : ∀ (l : List Pr), Asc l → rng l lo (mid - 1) ++ rng l mid hi = rng l lo hi
  | [], _ => rfl
  | x :: r, h => by
    obtain ⟨hx, hr⟩ := List.pairwise_cons.1 h
    have ih := rng_join lo mid hi h1 h2 r hr
    rw [rng_cons, rng_cons, rng_cons]
    by_cases c1 : x.key < lo
    · have e1 : outside lo (mid - 1) x = true := by simp [outside, c1]
      have e2 : outside mid hi x = true := by simp [outside]; omega
      have e3 : outside lo hi x = true := by simp [outside, c1]
      rw [e1, e2, e3]
      simpa using ih
    · by_cases c2 : x.key < mid
      · have e1 : outside lo (mid - 1) x = false := by simp [outside]; omega
        have e2 : outside mid hi x = true := by simp [outside]; omega
        have e3 : outside lo hi x = false := by simp [outside]; omega
        rw [e1, e2, e3]
        simpa using ih
      · have hn : rng r lo (mid - 1) = [] := rng_none fun b hb => by have := hx b hb; omega
        rw [hn, List.nil_append] at ih
        have e1 : outside lo (mid - 1) x = true := by simp [outside]; omega
        rw [e1, hn]
        by_cases c3 : x.key ≤ hi
        · have e2 : outside mid hi x = false := by simp [outside]; omega
          have e3 : outside lo hi x = false := by simp [outside]; omega
          rw [e2, e3]
          simpa using ih
        · have e2 : outside mid hi x = true := by simp [outside]; omega
          have e3 : outside lo hi x = true := by simp [outside]; omega
          rw [e2, e3]
          simpa using ih
theorem rng_len (l : List Pr) (lo hi : Int) : (rng l lo hi).length ≤ l.length := stays_len _ _
end Go.X
