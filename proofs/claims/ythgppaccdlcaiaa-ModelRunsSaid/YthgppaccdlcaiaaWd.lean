/- More arguments: an answer, a pair, operations; pairs whose keys are within int's bounds. -/
import Derived.Test.YthgppaccdlcaiaaWc
set_option linter.unusedVariables false
set_option linter.unusedSimpArgs false
namespace Go.X
open Go.Proofs.Try (prog)
open Go.RowKit Go.ChangeShapes Go.WideShapes Go.ChangeAt

def IntOk (n : Int) : Prop := -9223372036854775808 ≤ n ∧ n ≤ 9223372036854775807
def IsIr (ls : List Lf) : Prop := ∃ n, ls = [.int .i64 n] ∧ IntOk n
theorem o_ir {t : TypeId} (ht : Go.Proofs.Try.prog.underlying t = some (.int .i64)) : Opens Go.Proofs.Try.prog t IsIr := (opens_int ht).mono fun ls ⟨n, h, hwf⟩ => ⟨n, h, by
  simp [Lit.wf, IntKind.min, IntKind.max, IntKind.bits, IntKind.signed] at hwf
  unfold IntOk
  omega⟩
theorem o_prr : Opens Go.Proofs.Try.prog 33 fun ls => ∃ p : Pr, ls = p.row ∧ IntOk p.key := by
  refine (opens_tys (ts := [3, 3]) (by kernel_rfl) [IsIr, IsI] ⟨o_ir (by kernel_rfl), o_i (by kernel_rfl), trivial⟩).mono ?_
  rintro ls ⟨a, b, rfl, ⟨x, rfl, hx⟩, c, d, rfl, ⟨y, rfl⟩, rfl⟩
  exact ⟨⟨x, y⟩, rfl, hx⟩
theorem o_prsr : Opens Go.Proofs.Try.prog 34 fun ls => ∃ ps : List Pr, ls = [.sl (ps.map Pr.row)] ∧ ps.length ≤ big ∧ ∀ p ∈ ps, IntOk p.key := by
  refine (opens_slice (by kernel_rfl) o_prr (of_decide_eq_true (by kernel_rfl))).mono ?_
  rintro ls ⟨rows, rfl, hr, hb⟩
  obtain ⟨ps, rfl, h2⟩ := rows_map hr
  exact ⟨ps, rfl, by simpa using len_of (of_decide_eq_true (by kernel_rfl)) hb, h2⟩
theorem o_ops : Opens Go.Proofs.Try.prog 46 fun ls => ∃ os : List Opn, ls = [.sl (os.map Opn.row)] ∧ os.length ≤ big := by
  refine (opens_slice (by kernel_rfl) (o_op.mono fun ls ⟨o, h⟩ => (⟨o, h, trivial⟩ : ∃ o : Opn, ls = o.row ∧ True)) (of_decide_eq_true (by kernel_rfl))).mono ?_
  rintro ls ⟨rows, rfl, hr, hb⟩
  obtain ⟨ps, rfl, _⟩ := rows_map hr
  exact ⟨ps, rfl, by simpa using len_of (of_decide_eq_true (by kernel_rfl)) hb⟩
section
variable {H : Type} {enc : TypeId × Value → H} {W : World} {base : Nat} {v : Value} {d : DataW H} {p : List MemPlace}
theorem arg_prsr (hok : Value.okWide Go.Proofs.Try.prog W .any base 34 v) (h : DataW.Trod enc Go.Proofs.Try.prog W 0 (fun _ => true) true 34 v d p) (hw : ∀ n ∈ d.weights Go.Proofs.Try.prog 34, n ≤ reachBytes) :
    ∃ l : List Pr, ConcA (g0 Go.Proofs.Try.prog W) W (.l (.sl (l.map Pr.row))) v ∧ l.length ≤ big ∧ ∀ p ∈ l, IntOk p.key := by
  obtain ⟨x, h1, l, rfl, h2⟩ := arg_l (R := fun x => ∃ h : List Pr, x = .sl (h.map Pr.row) ∧ h.length ≤ big ∧ ∀ p ∈ h, IntOk p.key) (e := 33) (by kernel_rfl) (o_prsr.mono fun ls ⟨l, h3, h4⟩ => ⟨_, h3, l, rfl, h4⟩) hok h hw
  exact ⟨l, h1, h2⟩
theorem arg_ops (hok : Value.okWide Go.Proofs.Try.prog W .any base 46 v) (h : DataW.Trod enc Go.Proofs.Try.prog W 0 (fun _ => true) true 46 v d p) (hw : ∀ n ∈ d.weights Go.Proofs.Try.prog 46, n ≤ reachBytes) :
    ∃ l : List Opn, ConcA (g0 Go.Proofs.Try.prog W) W (.l (.sl (l.map Opn.row))) v ∧ l.length ≤ big := by
  obtain ⟨x, h1, l, rfl, h2⟩ := arg_l (R := fun x => ∃ h : List Opn, x = .sl (h.map Opn.row) ∧ h.length ≤ big) (e := 30) (by kernel_rfl) (o_ops.mono fun ls ⟨l, h3, h4⟩ => ⟨_, h3, l, rfl, h4⟩) hok h hw
  exact ⟨l, h1, h2⟩
theorem arg_ans (hok : Value.okWide Go.Proofs.Try.prog W .any base 36 v) (h : DataW.Trod enc Go.Proofs.Try.prog W 0 (fun _ => true) true 36 v d p) (hw : ∀ n ∈ d.weights Go.Proofs.Try.prog 36, n ≤ reachBytes) :
    ∃ a : Ans, ConcA (g0 Go.Proofs.Try.prog W) W (.agg a.row) v ∧ a.pairs.length ≤ big := by
  obtain ⟨fs, hu⟩ : ∃ fs, Go.Proofs.Try.prog.underlying 36 = some (.struct fs) := struct_of (by kernel_rfl)
  obtain ⟨ls, h1, o, rfl, h2⟩ := arg_agg hu o_ans hok h hw
  exact ⟨o, h1, h2⟩
theorem arg_pr (hok : Value.okWide Go.Proofs.Try.prog W .any base 33 v) (h : DataW.Trod enc Go.Proofs.Try.prog W 0 (fun _ => true) true 33 v d p) (hw : ∀ n ∈ d.weights Go.Proofs.Try.prog 33, n ≤ reachBytes) :
    ∃ o : Pr, ConcA (g0 Go.Proofs.Try.prog W) W (.agg o.row) v := by
  obtain ⟨fs, hu⟩ : ∃ fs, Go.Proofs.Try.prog.underlying 33 = some (.struct fs) := struct_of (by kernel_rfl)
  obtain ⟨ls, h1, o, rfl, _⟩ := arg_agg hu o_pr hok h hw
  exact ⟨o, h1⟩
end
end Go.X
