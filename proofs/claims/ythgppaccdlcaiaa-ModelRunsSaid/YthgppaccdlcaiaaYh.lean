/- Histories, as past.read goes through them. -/
import Derived.Test.YthgppaccdlcaiaaYa
import Derived.Test.YthgppaccdlcaiaaYb
set_option linter.unusedVariables false
set_option linter.unusedSimpArgs false
namespace Go.X
open Go.Proofs.Try (prog)

/-- One event more. -/
noncomputable def rstep (i : Nat) (x : Evt) (s : List Cl × List (Int × Int)) : Option (List Cl × List (Int × Int)) :=
  if x.who < 0 ∨ 6 ≤ x.who then none
  else if x.ret = false then
    if 1 ≤ (iget s.2 x.who).getD 0 ∨ mayOpB x.op = false ∨ x.ans ≠ ans0 then none
    else some (s.1 ++ [⟨x.who, i, -1, x.op, ans0⟩], iput s.2 x.who (s.1.length + 1))
  else
    if (iget s.2 x.who).getD 0 < 1 ∨ (s.1.getD ((iget s.2 x.who).getD 0 - 1).toNat default).op ≠ x.op then none
    else some (s.1.set ((iget s.2 x.who).getD 0 - 1).toNat { s.1.getD ((iget s.2 x.who).getD 0 - 1).toNat default with fin := i, ans := x.ans }, idel s.2 x.who)
noncomputable def rrun : List Evt → Nat → List Cl × List (Int × Int) → Option (List Cl × List (Int × Int))
  | [], _, s => some s
  | x :: r, i, s => (rstep i x s).bind (rrun r (i + 1))
noncomputable def readP (h : List Evt) : Option (List Cl) := (rrun h 0 ([], [])).map (·.1)
noncomputable def readV (h : List Evt) : AV := match readP h with
  | some out => .tup [.l (.sl (out.map Cl.row)), .l (.bool true)]
  | none => .tup [.l (.sl []), .l (.bool false)]
/-- Small enough to be walked. -/
def Small (h : List Evt) : Prop := h.length ≤ 1000000 ∧ ∀ x ∈ h, x.ans.pairs.length ≤ 1000000
end Go.X
