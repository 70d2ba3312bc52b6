/- How the arguments of the laws read: histories, operations, pairs, answers. -/
import Derived.Test.YthgppaccdlcaiaaWa
import Derived.Test.YthgppaccdlcaiaaYh
import Derived.KernelRfl
set_option linter.unusedVariables false
set_option linter.unusedSimpArgs false
namespace Go.X
open Go.Proofs.Try (prog)

def tysOf (P : Program) (t : TypeId) : Option (List TypeId) := match P.underlying t with
  | some (.struct fs) => if Contig P fs.toList 0 (P.cellsOf t) then some (fs.toList.map (·.type)) else none
  | _ => none
def OpensT (P : Program) : List TypeId → List (List Lf → Prop) → Prop
  | [], [] => True
  | t :: ts, R :: Rs => Opens P t R ∧ OpensT P ts Rs
  | _, _ => False
theorem OpensT.all {P : Program} : ∀ {fs : List Field} {Rs : List (List Lf → Prop)}, OpensT P (fs.map (·.type)) Rs → OpensAll P fs Rs
  | [], [], _ => trivial
  | f :: fs, R :: Rs, h => ⟨h.1, OpensT.all h.2⟩
  | [], R :: Rs, h => h.elim
  | f :: fs, [], h => h.elim
theorem opens_tys {P : Program} {t : TypeId} {ts : List TypeId} (ht : tysOf P t = some ts) (Rs : List (List Lf → Prop)) (ho : OpensT P ts Rs) : Opens P t (RsAll Rs) := by
  unfold tysOf at ht
  split at ht
  · rename_i fs hu
    split at ht
    · rename_i hc
      simp only [Option.some.injEq] at ht
      subst ht
      exact opens_struct hu Rs hc ho.all
    · cases ht
  · cases ht
theorem rows_map {α : Type} {row : α → List Lf} {B : α → Prop} : ∀ {rows : List (List Lf)}, (∀ r ∈ rows, ∃ a, r = row a ∧ B a) → ∃ l : List α, rows = l.map row ∧ ∀ a ∈ l, B a
  | [], _ => ⟨[], rfl, fun a h => by cases h⟩
  | r :: rs, h => by
    obtain ⟨a, rfl, ha⟩ := h r (by simp)
    obtain ⟨l, rfl, hl⟩ := rows_map (rows := rs) fun x hx => h x (by simp [hx])
    exact ⟨a :: l, rfl, fun x hx => by
      rcases List.mem_cons.1 hx with rfl | hx
      · exact ha
      · exact hl x hx⟩
def IsI (ls : List Lf) : Prop := ∃ n, ls = [.int .i64 n]
def IsB (ls : List Lf) : Prop := ∃ b, ls = [.bool b]
theorem o_i {t : TypeId} (ht : Go.Proofs.Try.prog.underlying t = some (.int .i64)) : Opens Go.Proofs.Try.prog t IsI := (opens_int ht).mono fun ls ⟨n, h, _⟩ => ⟨n, h⟩
theorem o_b {t : TypeId} (ht : Go.Proofs.Try.prog.underlying t = some .bool) : Opens Go.Proofs.Try.prog t IsB := opens_bool ht
theorem o_pr : Opens Go.Proofs.Try.prog 33 fun ls => ∃ p : Pr, ls = p.row ∧ True := by
  refine (opens_tys (ts := [3, 3]) (by kernel_rfl) [IsI, IsI] ⟨o_i (by kernel_rfl), o_i (by kernel_rfl), trivial⟩).mono ?_
  rintro ls ⟨a, b, rfl, ⟨x, rfl⟩, c, d, rfl, ⟨y, rfl⟩, rfl⟩
  exact ⟨⟨x, y⟩, rfl, trivial⟩
def big : Nat := 140737488355328
theorem len_of {n b : Nat} (hb : 0 < b) (h : n * b ≤ reachBytes) : n ≤ big := by
  have h1 : n * 1 ≤ n * b := Nat.mul_le_mul_left _ hb
  have h2 : reachBytes < big := by decide
  omega
theorem o_prs : Opens Go.Proofs.Try.prog 34 fun ls => ∃ ps : List Pr, ls = [.sl (ps.map Pr.row)] ∧ ps.length ≤ big := by
  refine (opens_slice (by kernel_rfl) o_pr (of_decide_eq_true (by kernel_rfl))).mono ?_
  rintro ls ⟨rows, rfl, hr, hb⟩
  obtain ⟨ps, rfl, _⟩ := rows_map hr
  exact ⟨ps, rfl, by simpa using len_of (of_decide_eq_true (by kernel_rfl)) hb⟩
theorem o_op : Opens Go.Proofs.Try.prog 30 fun ls => ∃ o : Opn, ls = o.row := by
  refine (opens_tys (ts := [3, 3, 3, 3]) (by kernel_rfl) [IsI, IsI, IsI, IsI] ⟨o_i (by kernel_rfl), o_i (by kernel_rfl), o_i (by kernel_rfl), o_i (by kernel_rfl), trivial⟩).mono ?_
  rintro ls ⟨a, b, rfl, ⟨x, rfl⟩, c, d, rfl, ⟨y, rfl⟩, e, f, rfl, ⟨z, rfl⟩, g, h, rfl, ⟨u, rfl⟩, rfl⟩
  exact ⟨⟨x, y, z, u⟩, rfl⟩
theorem o_ans : Opens Go.Proofs.Try.prog 36 fun ls => ∃ a : Ans, ls = a.row ∧ a.pairs.length ≤ big := by
  refine (opens_tys (ts := [31, 4, 33, 3, 34]) (by kernel_rfl) [IsI, IsB, _, IsI, _] ⟨o_i (by kernel_rfl), o_b (by kernel_rfl), o_pr, o_i (by kernel_rfl), o_prs, trivial⟩).mono ?_
  rintro ls ⟨a, b, rfl, ⟨x, rfl⟩, c, d, rfl, ⟨y, rfl⟩, e, f, rfl, ⟨p, rfl, _⟩, g, h, rfl, ⟨u, rfl⟩, i, j, rfl, ⟨ps, rfl, hb⟩, rfl⟩
  exact ⟨⟨x, y, p, u, ps⟩, rfl, hb⟩
theorem o_evt : Opens Go.Proofs.Try.prog 41 fun ls => ∃ e : Evt, ls = e.row ∧ e.ans.pairs.length ≤ big := by
  refine (opens_tys (ts := [3, 4, 30, 36]) (by kernel_rfl) [IsI, IsB, _, _] ⟨o_i (by kernel_rfl), o_b (by kernel_rfl), o_op, o_ans, trivial⟩).mono ?_
  rintro ls ⟨a, b, rfl, ⟨x, rfl⟩, c, d, rfl, ⟨y, rfl⟩, e, f, rfl, ⟨o, rfl⟩, g, h, rfl, ⟨u, rfl, hb⟩, rfl⟩
  exact ⟨⟨x, y, o, u⟩, rfl, hb⟩
theorem o_evts : Opens Go.Proofs.Try.prog 22 fun ls => ∃ h : List Evt, ls = [.sl (h.map Evt.row)] ∧ h.length ≤ big ∧ ∀ x ∈ h, x.ans.pairs.length ≤ big := by
  refine (opens_slice (by kernel_rfl) o_evt (of_decide_eq_true (by kernel_rfl))).mono ?_
  rintro ls ⟨rows, rfl, hr, hb⟩
  obtain ⟨l, rfl, hl⟩ := rows_map hr
  exact ⟨l, rfl, by simpa using len_of (of_decide_eq_true (by kernel_rfl)) hb, hl⟩
end Go.X
