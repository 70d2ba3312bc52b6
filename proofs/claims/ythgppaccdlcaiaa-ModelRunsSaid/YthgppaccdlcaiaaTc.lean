/- Plain laws of leaves: the ends, and what is left when the front is cut. -/
import Derived.Test.YthgppaccdlcaiaaTb
set_option linter.unusedVariables false
set_option linter.unusedSimpArgs false
namespace Go.X

def minOp : Opn := ⟨7, 0, 0, 0⟩
def maxOp : Opn := ⟨8, 0, 0, 0⟩
def cutOp (k : Int) : Opn := ⟨3, k, 0, 0⟩
theorem doA_min {l : List Pr} (h : Asc l) : doA l minOp = if l = [] then ans0 else ⟨0, true, l.getD 0 default, 0, []⟩ := by
  rw [doA, if_neg (by rw [okOp_of h rfl]; simp), if_neg (by decide), if_neg (by decide), if_pos (show minOp.kind = 7 from rfl)]
theorem doA_max {l : List Pr} (h : Asc l) : doA l maxOp = if l = [] then ans0 else ⟨0, true, l.getD (l.length - 1) default, 0, []⟩ := by
  rw [doA, if_neg (by rw [okOp_of h rfl]; simp), if_neg (by decide), if_neg (by decide), if_neg (by decide), if_pos (show maxOp.kind = 8 from rfl)]
theorem doL_cut {x : Pr} {r : List Pr} (h : Asc (x :: r)) : doL (x :: r) (cutOp x.key) = r := by
  have hI : Inn x.key [] x r (x :: r) := ⟨rfl, rfl, (fun a h => by cases h), (List.pairwise_cons.1 h).1⟩
  have hp := hI.place
  rw [doL_upd h rfl (show (3 : Int) ≤ 3 by decide), oneL, if_neg (by
    rintro (h1 | h1)
    · exact absurd h1 (show ¬ (3 : Int) = 1 by decide)
    · exact absurd h1.1 (show ¬ (3 : Int) = 2 by decide)), if_pos ⟨rfl, by show (0 : Int) ≤ place (x :: r) x.key; rw [hp]; simp⟩]
  exact hI.cut
theorem asc_drop {l : List Pr} (h : Asc l) (i : Nat) : Asc (l.drop i) := List.Pairwise.sublist (List.drop_sublist i l) h
theorem drop_cons {l : List Pr} {i : Nat} (hi : i < l.length) : l.drop i = l.getD i default :: l.drop (i + 1) := by
  rw [List.drop_eq_getElem_cons hi, List.getD_eq_getElem?_getD, List.getElem?_eq_getElem hi, Option.getD_some]
theorem getD_drop (l : List Pr) (i j : Nat) : (l.drop i).getD j default = l.getD (i + j) default := by
  simp [List.getD_eq_getElem?_getD, List.getElem?_drop]
end Go.X
