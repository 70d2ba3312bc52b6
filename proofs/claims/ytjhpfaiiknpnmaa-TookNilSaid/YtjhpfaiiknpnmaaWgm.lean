/- More arguments: steps. -/
import Derived.Test.YtjhpfaiiknpnmaaZ4
import Derived.Test.YtjhpfaiiknpnmaaGfm
import Derived.Test.YtjhpfaiiknpnmaaZ5
set_option linter.unusedVariables false
set_option linter.unusedSimpArgs false
set_option maxRecDepth 100000
namespace Go.X
open Go.Proofs.Try (prog)
open Go.RowKit Go.ChangeShapes Go.WideShapes Go.ChangeAt

theorem o_stp : Opens Go.Proofs.Try.prog 31 fun ls => ∃ e : Stp, ls = e.row ∧ e.ans.pairs.length ≤ big := by
  refine (opens_tys (ts := [3, 3, 23, 29]) (by kernel_rfl) [IsI, IsI, _, _] ⟨o_i (by kernel_rfl), o_i (by kernel_rfl), o_op, o_ans, trivial⟩).mono ?_
  rintro ls ⟨a, b, rfl, ⟨x, rfl⟩, c, d, rfl, ⟨y, rfl⟩, e, f, rfl, ⟨o, rfl⟩, g, h, rfl, ⟨u, rfl, hb⟩, rfl⟩
  exact ⟨⟨x, y, o, u⟩, rfl, hb⟩
theorem o_stps : Opens Go.Proofs.Try.prog 33 fun ls => ∃ h : List Stp, ls = [.sl (h.map Stp.row)] ∧ h.length ≤ big ∧ ∀ x ∈ h, x.ans.pairs.length ≤ big := by
  refine (opens_slice (by kernel_rfl) o_stp (of_decide_eq_true (by kernel_rfl))).mono ?_
  rintro ls ⟨rows, rfl, hr, hb⟩
  obtain ⟨l, rfl, hl⟩ := rows_map hr
  exact ⟨l, rfl, by simpa using len_of (of_decide_eq_true (by kernel_rfl)) hb, hl⟩
section
variable {H : Type} {enc : TypeId × Value → H} {W : World} {base : Nat} {v : Value} {d : DataW H} {p : List MemPlace}
theorem arg_stp (hok : Value.okWide Go.Proofs.Try.prog W .any base 31 v) (h : DataW.Trod enc Go.Proofs.Try.prog W 0 (fun _ => true) true 31 v d p) (hw : ∀ n ∈ d.weights Go.Proofs.Try.prog 31, n ≤ reachBytes) :
    ∃ a : Stp, ConcA (g0 Go.Proofs.Try.prog W) W (.agg a.row) v ∧ a.ans.pairs.length ≤ big := by
  obtain ⟨fs, hu⟩ : ∃ fs, Go.Proofs.Try.prog.underlying 31 = some (.struct fs) := struct_of (by kernel_rfl)
  obtain ⟨ls, h1, o, rfl, h2⟩ := arg_agg hu o_stp hok h hw
  exact ⟨o, h1, h2⟩
theorem arg_stps (hok : Value.okWide Go.Proofs.Try.prog W .any base 33 v) (h : DataW.Trod enc Go.Proofs.Try.prog W 0 (fun _ => true) true 33 v d p) (hw : ∀ n ∈ d.weights Go.Proofs.Try.prog 33, n ≤ reachBytes) :
    ∃ h : List Stp, ConcA (g0 Go.Proofs.Try.prog W) W (.l (.sl (h.map Stp.row))) v ∧ h.length ≤ big ∧ ∀ x ∈ h, x.ans.pairs.length ≤ big := by
  obtain ⟨x, h1, l, rfl, h2⟩ := arg_l (R := fun x => ∃ h : List Stp, x = .sl (h.map Stp.row) ∧ h.length ≤ big ∧ ∀ x ∈ h, x.ans.pairs.length ≤ big) (e := 31) (by kernel_rfl) (o_stps.mono fun ls ⟨l, h3, h4⟩ => ⟨_, h3, l, rfl, h4⟩) hok h hw
  exact ⟨l, h1, h2⟩
end
end Go.X
