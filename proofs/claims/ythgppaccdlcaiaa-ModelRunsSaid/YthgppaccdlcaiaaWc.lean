/- From a law's walk to its statement: the arguments, one by one, and the call. -/
import Derived.Test.YthgppaccdlcaiaaWb
import Derived.WalkKit
import Derived.ProofKit
import Derived.OpenShut
import Derived.ShutString
import Derived.ChangeOld
import Derived.Below
import Derived.Carry
set_option linter.unusedVariables false
set_option linter.unusedSimpArgs false
namespace Go.X
open Go.Proofs.Try (prog)
open Go.RowKit Go.ChangeShapes Go.WideShapes Go.ChangeAt

theorem calls_law {P : Program} {f : FuncId} {args : List AV} {vs : Array Value} {W : World} (hx : XCalls P f args mem0 fun r M' => r = .l (.bool true) ∧ M' = mem0) (hA : ArgsR (g0 P W) W args vs) :
    Calls P f vs W fun e W' => e = .returned (.bool true) ∧ Below W.heap.size W W' := by
  refine (hx.2 (g0 P W) W vs rfl hA (rel0 P W)).mono ?_
  rintro e w' ⟨rv, v, g', M', rfl, ⟨rfl, rfl⟩, hev, hc, hR⟩
  cases hc with
  | l hc =>
    cases hc
    have := hR.below
    rw [hev.w0] at this
    exact ⟨rfl, this⟩

theorem argsR_nil {g : Gh} {w : World} : ArgsR g w [] #[] := ⟨rfl, fun i x v h => by simp at h⟩
theorem argsR_cons {g : Gh} {w : World} {x : AV} {v : Value} {xs : List AV} {vs : List Value} (h : ConcA g w x v) (hs : ArgsR g w xs vs.toArray) : ArgsR g w (x :: xs) (v :: vs).toArray := by
  refine ⟨by simp [hs.1], fun i y u hy hu => ?_⟩
  cases i with
  | zero => simp at hy hu; subst hy; subst hu; exact h
  | succ i => exact hs.2 i y u (by simpa using hy) (by simpa using hu)

theorem struct_of {P : Program} {t : TypeId} (h : (match P.underlying t with | some (.struct _) => true | _ => false) = true) : ∃ fs, P.underlying t = some (.struct fs) := by
  split at h
  · rename_i fs hf
    exact ⟨fs, hf⟩
  · cases h
section
variable {H : Type} {enc : TypeId × Value → H} {W : World} {base : Nat} {v : Value} {d : DataW H} {p : List MemPlace}

theorem arg_l {R : Lf → Prop} {t e : TypeId} (hu : Go.Proofs.Try.prog.underlying t = some (.slice e)) (ho : Opens Go.Proofs.Try.prog t fun ls => ∃ x, ls = [x] ∧ R x) (hok : Value.okWide Go.Proofs.Try.prog W .any base t v)
    (h : DataW.Trod enc Go.Proofs.Try.prog W 0 (fun _ => true) true t v d p) (hw : ∀ n ∈ d.weights Go.Proofs.Try.prog t, n ≤ reachBytes) : ∃ x, ConcA (g0 Go.Proofs.Try.prog W) W (.l x) v ∧ R x := by
  obtain ⟨a, len, cap, rfl⟩ := okWide_slice hu hok
  obtain ⟨fuel, hf⟩ := h
  obtain ⟨ls, h1, x, rfl, h2⟩ := ho H enc W _ _ fuel _ _ hf hw
  exact ⟨x, .l (h1.2 0 x _ rfl (by rfl)), h2⟩
theorem arg_agg {R : List Lf → Prop} {t : TypeId} {fs : Array Field} (hu : Go.Proofs.Try.prog.underlying t = some (.struct fs)) (ho : Opens Go.Proofs.Try.prog t R) (hok : Value.okWide Go.Proofs.Try.prog W .any base t v)
    (h : DataW.Trod enc Go.Proofs.Try.prog W 0 (fun _ => true) true t v d p) (hw : ∀ n ∈ d.weights Go.Proofs.Try.prog t, n ≤ reachBytes) : ∃ ls, ConcA (g0 Go.Proofs.Try.prog W) W (.agg ls) v ∧ R ls := by
  obtain ⟨cs, rfl, _⟩ := okWide_struct hu hok
  obtain ⟨fuel, hf⟩ := h
  obtain ⟨ls, h1, h2⟩ := ho H enc W _ _ fuel _ _ hf hw
  refine ⟨ls, ?_, h2⟩
  have : (Value.agg cs) = .agg cs.toList.toArray := rfl
  rw [this]
  exact .agg _ h1

theorem arg_int (hok : Value.okWide Go.Proofs.Try.prog W .any base 3 v) (h : DataW.Trod enc Go.Proofs.Try.prog W 0 (fun _ => true) true 3 v d p) (hw : ∀ n ∈ d.weights Go.Proofs.Try.prog 3, n ≤ reachBytes) :
    ∃ n, ConcA (g0 Go.Proofs.Try.prog W) W (.l (.int .i64 n)) v := by
  obtain ⟨n, rfl, _⟩ := open_int (k := .i64) (by kernel_rfl) hok h
  exact ⟨n, .l (.int _ _)⟩
theorem arg_intr (hok : Value.okWide Go.Proofs.Try.prog W .any base 3 v) (h : DataW.Trod enc Go.Proofs.Try.prog W 0 (fun _ => true) true 3 v d p) (hw : ∀ n ∈ d.weights Go.Proofs.Try.prog 3, n ≤ reachBytes) :
    ∃ n, ConcA (g0 Go.Proofs.Try.prog W) W (.l (.int .i64 n)) v ∧ -9223372036854775808 ≤ n ∧ n ≤ 9223372036854775807 := by
  obtain ⟨n, rfl, _, _, hwf⟩ := open_int (k := .i64) (by kernel_rfl) hok h
  refine ⟨n, .l (.int _ _), ?_⟩
  simp [Lit.wf, IntKind.min, IntKind.max, IntKind.bits, IntKind.signed] at hwf
  omega
theorem arg_evts (hok : Value.okWide Go.Proofs.Try.prog W .any base 22 v) (h : DataW.Trod enc Go.Proofs.Try.prog W 0 (fun _ => true) true 22 v d p) (hw : ∀ n ∈ d.weights Go.Proofs.Try.prog 22, n ≤ reachBytes) :
    ∃ h : List Evt, ConcA (g0 Go.Proofs.Try.prog W) W (.l (.sl (h.map Evt.row))) v ∧ h.length ≤ big ∧ ∀ x ∈ h, x.ans.pairs.length ≤ big := by
  obtain ⟨x, h1, l, rfl, h2⟩ := arg_l (R := fun x => ∃ h : List Evt, x = .sl (h.map Evt.row) ∧ h.length ≤ big ∧ ∀ x ∈ h, x.ans.pairs.length ≤ big) (e := 41) (by kernel_rfl) (o_evts.mono fun ls ⟨l, h3, h4⟩ => ⟨_, h3, l, rfl, h4⟩) hok h hw
  exact ⟨l, h1, h2⟩
theorem arg_op (hok : Value.okWide Go.Proofs.Try.prog W .any base 30 v) (h : DataW.Trod enc Go.Proofs.Try.prog W 0 (fun _ => true) true 30 v d p) (hw : ∀ n ∈ d.weights Go.Proofs.Try.prog 30, n ≤ reachBytes) :
    ∃ o : Opn, ConcA (g0 Go.Proofs.Try.prog W) W (.agg o.row) v := by
  obtain ⟨fs, hu⟩ : ∃ fs, Go.Proofs.Try.prog.underlying 30 = some (.struct fs) := struct_of (by kernel_rfl)
  obtain ⟨ls, h1, o, rfl⟩ := arg_agg hu o_op hok h hw
  exact ⟨o, h1⟩
theorem arg_prs (hok : Value.okWide Go.Proofs.Try.prog W .any base 34 v) (h : DataW.Trod enc Go.Proofs.Try.prog W 0 (fun _ => true) true 34 v d p) (hw : ∀ n ∈ d.weights Go.Proofs.Try.prog 34, n ≤ reachBytes) :
    ∃ l : List Pr, ConcA (g0 Go.Proofs.Try.prog W) W (.l (.sl (l.map Pr.row))) v ∧ l.length ≤ big := by
  obtain ⟨x, h1, l, rfl, h2⟩ := arg_l (R := fun x => ∃ h : List Pr, x = .sl (h.map Pr.row) ∧ h.length ≤ big) (e := 33) (by kernel_rfl) (o_prs.mono fun ls ⟨l, h3, h4⟩ => ⟨_, h3, l, rfl, h4⟩) hok h hw
  exact ⟨l, h1, h2⟩
end
end Go.X
