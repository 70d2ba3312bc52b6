/- Texts joined: Za Ye Yg Yc Wa Wb Wc Yf Yi Zb Zc Va Vb Vc Vd. -/
import Derived.Test.YtjhpfaiiknpnmaaZ2
import Derived.SizedLaws
import Derived.ChangeSlices
import Derived.KernelRfl
import Derived.WalkKit
import Derived.ProofKit
import Derived.OpenShut
import Derived.ShutString
import Derived.ChangeOld
import Derived.Below
import Derived.Carry

/- Plain laws of histories: what is true of the calls that past.read finds. -/

set_option linter.unusedVariables false
set_option linter.unusedSimpArgs false
set_option maxRecDepth 100000
namespace Go.X

theorem gd_app (l : List Cl) (c : Cl) (k : Nat) : (l ++ [c]).getD k default = if k < l.length then l.getD k default else if k = l.length then c else default := by
  simp only [List.getD_eq_getElem?_getD]
  split
  · rename_i h
    rw [List.getElem?_append_left h]
  · rename_i h
    rw [List.getElem?_append_right (by omega)]
    split
    · rename_i e
      subst e
      simp
    · rename_i e
      have : k - l.length ≠ 0 := by omega
      cases hk : k - l.length with
      | zero => omega
      | succ n => simp
theorem gd_set (l : List Cl) (c : Cl) (j k : Nat) (hj : j < l.length) : (l.set j c).getD k default = if k = j then c else l.getD k default := by
  simp only [List.getD_eq_getElem?_getD, List.getElem?_set]
  by_cases h : j = k
  · subst h
    simp [hj]
  · simp [h, Ne.symm h]

theorem rrun_app (l r : List Evt) : ∀ (i : Nat) (s : List Cl × List (Int × Int)), rrun (l ++ r) i s = (rrun l i s).bind (rrun r (i + l.length)) := by
  induction l with
  | nil => intro i s; simp [rrun]
  | cons x l ih =>
    intro i s
    simp only [List.cons_append, rrun, List.length_cons]
    cases rstep i x s with
    | none => rfl
    | some s' =>
      simp only [Option.bind_some]
      rw [ih]
      congr 2
      omega

theorem rrun_inv {h : List Evt} {Q : Nat → List Cl × List (Int × Int) → Prop} (h0 : Q 0 ([], []))
    (hs : ∀ i s s', i < h.length → Q i s → rstep i (h.getD i default) s = some s' → Q (i + 1) s') {s : List Cl × List (Int × Int)} (hr : rrun h 0 ([], []) = some s) : Q h.length s := by
  have key : ∀ (n i : Nat) (s' : List Cl × List (Int × Int)), h.length - i = n → i ≤ h.length → Q i s' → rrun (h.drop i) i s' = some s → Q h.length s := by
    intro n
    induction n with
    | zero =>
      intro i s' hn hi hq hrr
      have : i = h.length := by omega
      subst this
      simp only [List.drop_length, rrun, Option.some.injEq] at hrr
      subst hrr
      exact hq
    | succ n ih =>
      intro i s' hn hi hq hrr
      have hi' : i < h.length := by omega
      rw [List.drop_eq_getElem_cons hi'] at hrr
      have hg : h[i] = h.getD i default := by simp [List.getD_eq_getElem?_getD, hi']
      rw [hg] at hrr
      simp only [rrun] at hrr
      cases hst : rstep i (h.getD i default) s' with
      | none => rw [hst] at hrr; simp at hrr
      | some s2 =>
        rw [hst] at hrr
        simp only [Option.bind_some] at hrr
        exact ih (i + 1) s2 (by omega) (by omega) (hs i s' s2 hi' hq hst) hrr
  exact key _ 0 _ rfl (Nat.zero_le _) h0 (by simpa using hr)

/-- What the state says. -/
structure HInv (h : List Evt) (i : Nat) (s : List Cl × List (Int × Int)) : Prop where
  nod : INod s.2
  beg : ∀ k, k < s.1.length → ∃ b, b < i ∧ (s.1.getD k default).beg = (b : Int) ∧ (h.getD b default).ret = false ∧ (h.getD b default).who = (s.1.getD k default).who ∧ (h.getD b default).op = (s.1.getD k default).op
  fin : ∀ k, k < s.1.length → (s.1.getD k default).fin = -1 ∨ ∃ f : Nat, (s.1.getD k default).fin = (f : Int) ∧ (s.1.getD k default).beg < (f : Int) ∧ f < i ∧ (h.getD f default).ret = true
  rise : ∀ j k, j < k → k < s.1.length → (s.1.getD j default).beg < (s.1.getD k default).beg
  opn : ∀ k, k < s.1.length → (s.1.getD k default).fin = -1 → iget s.2 (s.1.getD k default).who = some ((k : Int) + 1)
  map : ∀ t v, iget s.2 t = some v → ∃ k : Nat, v = (k : Int) + 1 ∧ k < s.1.length ∧ (s.1.getD k default).who = t ∧ (s.1.getD k default).fin = -1
  seq : ∀ j k, j < k → k < s.1.length → (s.1.getD j default).who = (s.1.getD k default).who → 0 ≤ (s.1.getD j default).fin ∧ (s.1.getD j default).fin < (s.1.getD k default).beg
  ne : 0 < i → s.1 ≠ []
  who : ∀ k, k < s.1.length → 0 ≤ (s.1.getD k default).who ∧ (s.1.getD k default).who < 6

theorem HInv.zero (h : List Evt) : HInv h 0 ([], []) where
  nod := by simp [INod]
  beg k hk := by simp at hk
  fin k hk := by simp at hk
  rise j k hj hk := by simp at hk
  opn k hk := by simp at hk
  map t v hv := by simp [iget] at hv
  seq j k hj hk := by simp at hk
  ne hi := by omega
  who k hk := by simp at hk

theorem rstep_cases {h : List Evt} {i : Nat} {x : Evt} {out : List Cl} {ms : List (Int × Int)} (I : HInv h i (out, ms)) {s' : List Cl × List (Int × Int)} (hs : rstep i x (out, ms) = some s') :
    0 ≤ x.who ∧ x.who < 6 ∧ ((x.ret = false ∧ iget ms x.who = none ∧ mayOpB x.op = true ∧ x.ans = ans0 ∧ s' = (out ++ [⟨x.who, i, -1, x.op, ans0⟩], iput ms x.who (out.length + 1))) ∨
      (x.ret = true ∧ ∃ k : Nat, k < out.length ∧ iget ms x.who = some ((k : Int) + 1) ∧ (out.getD k default).who = x.who ∧ (out.getD k default).fin = -1 ∧ (out.getD k default).op = x.op ∧
        s' = (out.set k { out.getD k default with fin := i, ans := x.ans }, idel ms x.who))) := by
  simp only [rstep] at hs
  split at hs
  · cases hs
  · rename_i hw
    refine ⟨by omega, by omega, ?_⟩
    split at hs
    · rename_i hret
      split at hs
      · cases hs
      · rename_i hc
        simp only [not_or, Option.some.injEq] at hc hs
        refine .inl ⟨hret, ?_, by simpa using hc.2.1, by simpa using hc.2.2, hs.symm⟩
        cases hg : iget ms x.who with
        | none => rfl
        | some v =>
          obtain ⟨k, rfl, _⟩ := I.map _ _ hg
          rw [hg] at hc
          simp at hc
          omega
    · rename_i hret
      split at hs
      · cases hs
      · rename_i hc
        simp only [not_or, Option.some.injEq] at hc hs
        refine .inr ⟨by simpa using hret, ?_⟩
        cases hg : iget ms x.who with
        | none => rw [hg] at hc; simp at hc
        | some v =>
          obtain ⟨k, rfl, hk, h1, h2⟩ := I.map _ _ hg
          rw [hg] at hc hs
          have e : (((k : Int) + 1) - 1).toNat = k := by omega
          simp only [Option.getD_some, e] at hc hs
          exact ⟨k, hk, rfl, h1, h2, by simpa using hc.2, hs.symm⟩

theorem HInv.step {h : List Evt} {i : Nat} {s s' : List Cl × List (Int × Int)} (hi : i < h.length) (I : HInv h i s) (hs : rstep i (h.getD i default) s = some s') : HInv h (i + 1) s' := by
  obtain ⟨out, ms⟩ := s
  obtain ⟨w0, w1, hc⟩ := rstep_cases I hs
  generalize hx : h.getD i default = x at *
  rcases hc with ⟨hret, hnone, hop, hans, rfl⟩ | ⟨hret, k0, hk0, hg0, hwho, hfin, hop, rfl⟩
  · have I1 := I.beg; have I2 := I.fin; have I3 := I.rise; have I4 := I.opn; have I5 := I.map; have I6 := I.seq; have I7 := I.who
    simp only at I1 I2 I3 I4 I5 I6 I7
    have hbeg : ∀ k, k < out.length → (out.getD k default).beg < (i : Int) := fun k hk => by obtain ⟨b, hb, e, _⟩ := I1 k hk; omega
    exact {
      nod := iput_nod I.nod _ _
      beg := fun k hk => by
        simp only [List.length_append, List.length_cons, List.length_nil] at hk
        simp only [gd_app]
        by_cases hkl : k < out.length
        · simp only [hkl, if_true]
          obtain ⟨b, hb, r⟩ := I1 k hkl
          exact ⟨b, by omega, r⟩
        · have e : k = out.length := by omega
          simp only [e, Nat.lt_irrefl, if_false, if_true]
          exact ⟨i, by omega, rfl, by rw [hx]; exact hret, by rw [hx], by rw [hx]⟩
      fin := fun k hk => by
        simp only [List.length_append, List.length_cons, List.length_nil] at hk
        simp only [gd_app]
        by_cases hkl : k < out.length
        · simp only [hkl, if_true]
          rcases I2 k hkl with hf | ⟨f, h1, h2, h3, h4⟩
          · exact .inl hf
          · exact .inr ⟨f, h1, h2, by omega, h4⟩
        · have e : k = out.length := by omega
          simp only [e, Nat.lt_irrefl, if_false, if_true]
          exact .inl trivial
      rise := fun j k hj hk => by
        simp only [List.length_append, List.length_cons, List.length_nil] at hk
        simp only [gd_app]
        by_cases hkl : k < out.length
        · have hjl : j < out.length := by omega
          simp only [hkl, hjl, if_true]
          exact I3 j k hj hkl
        · have e : k = out.length := by omega
          have hjl : j < out.length := by omega
          simp only [hjl, e, Nat.lt_irrefl, if_false, if_true]
          exact hbeg j hjl
      opn := fun k hk => by
        simp only [List.length_append, List.length_cons, List.length_nil] at hk
        simp only [gd_app]
        by_cases hkl : k < out.length
        · simp only [hkl, if_true]
          intro hf
          rw [iget_put]
          have := I4 k hkl hf
          rw [if_neg (fun e => by rw [e, hnone] at this; cases this)]
          exact this
        · have e : k = out.length := by omega
          simp only [e, Nat.lt_irrefl, if_false, if_true]
          intro _
          rw [iget_put, if_pos rfl]
      map := fun t v hv => by
        simp only at hv
        rw [iget_put] at hv
        split at hv
        · rename_i e
          simp only [Option.some.injEq] at hv
          exact ⟨out.length, hv.symm, by simp, by simp [gd_app, e], by simp [gd_app]⟩
        · obtain ⟨k, hk1, hk2, hk3, hk4⟩ := I5 t v hv
          exact ⟨k, hk1, by simp; omega, by simp only [gd_app, hk2, if_true]; exact hk3, by simp only [gd_app, hk2, if_true]; exact hk4⟩
      seq := fun j k hj hk => by
        simp only [List.length_append, List.length_cons, List.length_nil] at hk
        simp only [gd_app]
        by_cases hkl : k < out.length
        · have hjl : j < out.length := by omega
          simp only [hkl, hjl, if_true]
          exact I6 j k hj hkl
        · have e : k = out.length := by omega
          have hjl : j < out.length := by omega
          simp only [hjl, e, Nat.lt_irrefl, if_false, if_true]
          intro hw
          rcases I2 j hjl with hf | ⟨f, h1, h2, h3, h4⟩
          · have := I4 j hjl hf
            rw [hw, hnone] at this
            cases this
          · omega
      ne := fun _ => by simp
      who := fun k hk => by
        simp only [List.length_append, List.length_cons, List.length_nil] at hk
        simp only [gd_app]
        by_cases hkl : k < out.length
        · simp only [hkl, if_true]
          exact I7 k hkl
        · have e : k = out.length := by omega
          simp only [e, Nat.lt_irrefl, if_false, if_true]
          exact ⟨w0, w1⟩ }
  · have I1 := I.beg; have I2 := I.fin; have I3 := I.rise; have I4 := I.opn; have I5 := I.map; have I6 := I.seq; have I7 := I.who
    simp only at I1 I2 I3 I4 I5 I6 I7
    have fb : ∀ k, ((out.set k0 { out.getD k0 default with fin := (i : Int), ans := x.ans }).getD k default).beg = (out.getD k default).beg := fun k => by
      rw [gd_set _ _ _ _ hk0]; split
      · rename_i e; subst e; rfl
      · rfl
    have fw : ∀ k, ((out.set k0 { out.getD k0 default with fin := (i : Int), ans := x.ans }).getD k default).who = (out.getD k default).who := fun k => by
      rw [gd_set _ _ _ _ hk0]; split
      · rename_i e; subst e; rfl
      · rfl
    have fo : ∀ k, ((out.set k0 { out.getD k0 default with fin := (i : Int), ans := x.ans }).getD k default).op = (out.getD k default).op := fun k => by
      rw [gd_set _ _ _ _ hk0]; split
      · rename_i e; subst e; rfl
      · rfl
    have ff : ∀ k, ((out.set k0 { out.getD k0 default with fin := (i : Int), ans := x.ans }).getD k default).fin = if k = k0 then (i : Int) else (out.getD k default).fin := fun k => by
      rw [gd_set _ _ _ _ hk0]; split
      · rfl
      · rfl
    exact {
      nod := idel_nod I.nod _
      beg := fun k hk => by
        simp only [List.length_set] at hk
        simp only [fb, fw, fo]
        obtain ⟨b, hb, r⟩ := I1 k hk
        exact ⟨b, by omega, r⟩
      fin := fun k hk => by
        simp only [List.length_set] at hk
        simp only [fb, ff]
        by_cases hkk : k = k0
        · simp only [hkk, if_true]
          obtain ⟨b, hb, e, _⟩ := I1 k0 hk0
          exact .inr ⟨i, rfl, by omega, by omega, by rw [hx]; exact hret⟩
        · simp only [hkk, if_false]
          rcases I2 k hk with hf | ⟨f, h1, h2, h3, h4⟩
          · exact .inl hf
          · exact .inr ⟨f, h1, h2, by omega, h4⟩
      rise := fun j k hj hk => by
        simp only [List.length_set] at hk
        simp only [fb]
        exact I3 j k hj hk
      opn := fun k hk => by
        simp only [List.length_set] at hk
        simp only [fw, ff]
        by_cases hkk : k = k0
        · simp only [hkk, if_true]
          intro e
          omega
        · simp only [hkk, if_false]
          intro hf
          have h1 := I4 k hk hf
          rw [iget_del I.nod, if_neg (fun e => by
            rw [e] at h1
            rw [hg0, Option.some.injEq] at h1
            omega)]
          exact h1
      map := fun t v hv => by
        simp only at hv
        rw [iget_del I.nod] at hv
        split at hv
        · cases hv
        · rename_i hne
          obtain ⟨k, hk1, hk2, hk3, hk4⟩ := I5 t v hv
          have hkk : k ≠ k0 := fun e => by subst e; exact hne (hk3.symm.trans hwho)
          exact ⟨k, hk1, by simp [hk2], by simp only [fw]; exact hk3, by simp only [ff, hkk, if_false]; exact hk4⟩
      seq := fun j k hj hk => by
        simp only [List.length_set] at hk
        simp only [fw, fb, ff]
        intro hw
        have h1 := I6 j k hj hk hw
        by_cases hjj : j = k0
        · subst hjj
          rw [hfin] at h1
          omega
        · simp only [hjj, if_false]
          exact h1
      ne := fun _ => by
        intro e
        have : (out.set k0 { out.getD k0 default with fin := (i : Int), ans := x.ans }).length = 0 := by simp only at e; rw [e]; rfl
        simp only [List.length_set] at this
        omega
      who := fun k hk => by
        simp only [List.length_set] at hk
        simp only [fw]
        exact I7 k hk }

theorem readP_inv {h : List Evt} {out : List Cl} (hr : readP h = some out) : ∃ ms, rrun h 0 ([], []) = some (out, ms) ∧ HInv h h.length (out, ms) := by
  simp only [readP, Option.map_eq_some_iff] at hr
  obtain ⟨⟨out', ms⟩, hrr, rfl⟩ := hr
  exact ⟨ms, hrr, rrun_inv (HInv.zero h) (fun i s s' hi I hs => I.step hi hs) hrr⟩
end Go.X

/- What Light does. -/


set_option linter.unusedVariables false
set_option linter.unusedSimpArgs false
set_option maxHeartbeats 20000000
set_option maxRecDepth 100000
namespace Go.X
open Go.Proofs.Try (prog)

def psum (h : List Evt) : Nat := (h.map fun x => x.ans.pairs.length).sum
def LightOk (h : List Evt) : Prop := h.length ≤ 200 ∧ psum h ≤ 3000
theorem psum_le {B : Nat} : ∀ (h : List Evt), (∀ x ∈ h, x.ans.pairs.length ≤ B) → psum h ≤ h.length * B
  | [], _ => by simp [psum]
  | x :: r, hx => by
    have h1 := psum_le r fun y hy => hx y (by simp [hy])
    have h2 := hx x (by simp)
    simp only [psum, List.map_cons, List.sum_cons, List.length_cons] at h1 ⊢
    rw [Nat.add_mul]
    omega
theorem psum_mem {h : List Evt} {x : Evt} (hx : x ∈ h) : x.ans.pairs.length ≤ psum h := by
  induction h with
  | nil => cases hx
  | cons y r ih =>
    simp only [psum, List.map_cons, List.sum_cons] at ih ⊢
    rcases List.mem_cons.1 hx with rfl | hx
    · omega
    · have := ih hx
      omega
theorem LightOk.small {h : List Evt} (hl : LightOk h) : Small h := ⟨by have := hl.1; omega, fun x hx => by have := psum_mem hx; have := hl.2; omega⟩
theorem psum_take {h : List Evt} {i : Nat} (hi : i < h.length) : psum (h.take (i + 1)) = psum (h.take i) + (h.getD i default).ans.pairs.length := by
  have : h.take (i + 1) = h.take i ++ [h.getD i default] := by
    rw [List.take_add_one, List.getD_eq_getElem?_getD, List.getElem?_eq_getElem hi]
    rfl
  rw [this]
  simp [psum, List.map_append, List.sum_append]

theorem light_spec (h : List Evt) (hl : h.length ≤ 140737488355328) (hp : ∀ x ∈ h, x.ans.pairs.length ≤ 140737488355328) (M : Mem) : XCalls Go.Proofs.Try.prog 25 [.l (.sl (h.map Evt.row))] M fun r M' => (r = .l (.int .i64 1) ∨ r = .l (.int .i64 0) ∧ LightOk h) ∧ M' = M := by
  refine xcalls_intro (rs := [.tmp 2]) Go.Proofs.Try.func25 rfl (by kernel_rfl) rfl rfl (by kernel_rfl) (by simp) ?_
  simp -implicitDefEqProofs (maxSteps := 1000000) (disch := omega) only [↓xsP, ↓vc_seq, xsQ, xsT, xsR, xsD, ↓reduceIte, reduceCtorEq, eq_self, ne_eq, imp_self, forall_const, Nat.reduceEqDiff, Nat.reduceAdd, Nat.reduceSub, Nat.reduceMul, Nat.reduceLT, Nat.reduceLeDiff, Nat.reduceBEq, Nat.reduceDiv, Nat.reduceMod, Int.reduceToNat, Int.reduceNeg, Int.reduceAdd, Int.reduceSub, Int.reduceMul, Int.reduceEq, Int.reduceNe, Int.reduceLT, Int.reduceLE, Int.reduceGT, Int.reduceGE]
  refine loopI_of (xloop (by kernel_rfl) (fun k fr M' => ∃ (i : Nat) (n : Int), i ≤ h.length ∧ k = h.length - i ∧ fr 0 = .l (.sl (h.map Evt.row)) ∧ fr 3 = .l (.int .i64 n) ∧ fr 6 = .l (.sl (h.map Evt.row)) ∧ fr 7 = .l (.int .i64 h.length) ∧ fr 8 = .l (.int .i64 i) ∧ M' = M ∧ (i ≤ 200 → n = psum (h.take i))) h.length ?_ ?_)
  · exact ⟨0, 0, Nat.zero_le _, rfl, by simp -implicitDefEqProofs (maxSteps := 1000000) (disch := omega) only [↓xsP, ↓vc_seq, xsQ, xsT, xsR, xsD, ↓reduceIte, reduceCtorEq, eq_self, ne_eq, imp_self, forall_const, Nat.reduceEqDiff, Nat.reduceAdd, Nat.reduceSub, Nat.reduceMul, Nat.reduceLT, Nat.reduceLeDiff, Nat.reduceBEq, Nat.reduceDiv, Nat.reduceMod, Int.reduceToNat, Int.reduceNeg, Int.reduceAdd, Int.reduceSub, Int.reduceMul, Int.reduceEq, Int.reduceNe, Int.reduceLT, Int.reduceLE, Int.reduceGT, Int.reduceGE], by simp -implicitDefEqProofs (maxSteps := 1000000) (disch := omega) only [↓xsP, ↓vc_seq, xsQ, xsT, xsR, xsD, ↓reduceIte, reduceCtorEq, eq_self, ne_eq, imp_self, forall_const, Nat.reduceEqDiff, Nat.reduceAdd, Nat.reduceSub, Nat.reduceMul, Nat.reduceLT, Nat.reduceLeDiff, Nat.reduceBEq, Nat.reduceDiv, Nat.reduceMod, Int.reduceToNat, Int.reduceNeg, Int.reduceAdd, Int.reduceSub, Int.reduceMul, Int.reduceEq, Int.reduceNe, Int.reduceLT, Int.reduceLE, Int.reduceGT, Int.reduceGE], by simp -implicitDefEqProofs (maxSteps := 1000000) (disch := omega) only [↓xsP, ↓vc_seq, xsQ, xsT, xsR, xsD, ↓reduceIte, reduceCtorEq, eq_self, ne_eq, imp_self, forall_const, Nat.reduceEqDiff, Nat.reduceAdd, Nat.reduceSub, Nat.reduceMul, Nat.reduceLT, Nat.reduceLeDiff, Nat.reduceBEq, Nat.reduceDiv, Nat.reduceMod, Int.reduceToNat, Int.reduceNeg, Int.reduceAdd, Int.reduceSub, Int.reduceMul, Int.reduceEq, Int.reduceNe, Int.reduceLT, Int.reduceLE, Int.reduceGT, Int.reduceGE], by simp -implicitDefEqProofs (maxSteps := 1000000) (disch := omega) only [↓xsP, ↓vc_seq, xsQ, xsT, xsR, xsD, ↓reduceIte, reduceCtorEq, eq_self, ne_eq, imp_self, forall_const, Nat.reduceEqDiff, Nat.reduceAdd, Nat.reduceSub, Nat.reduceMul, Nat.reduceLT, Nat.reduceLeDiff, Nat.reduceBEq, Nat.reduceDiv, Nat.reduceMod, Int.reduceToNat, Int.reduceNeg, Int.reduceAdd, Int.reduceSub, Int.reduceMul, Int.reduceEq, Int.reduceNe, Int.reduceLT, Int.reduceLE, Int.reduceGT, Int.reduceGE], by simp -implicitDefEqProofs (maxSteps := 1000000) (disch := omega) only [↓xsP, ↓vc_seq, xsQ, xsT, xsR, xsD, ↓reduceIte, reduceCtorEq, eq_self, ne_eq, imp_self, forall_const, Nat.reduceEqDiff, Nat.reduceAdd, Nat.reduceSub, Nat.reduceMul, Nat.reduceLT, Nat.reduceLeDiff, Nat.reduceBEq, Nat.reduceDiv, Nat.reduceMod, Int.reduceToNat, Int.reduceNeg, Int.reduceAdd, Int.reduceSub, Int.reduceMul, Int.reduceEq, Int.reduceNe, Int.reduceLT, Int.reduceLE, Int.reduceGT, Int.reduceGE, Int.cast_ofNat_Int], rfl, fun _ => by simp [psum]⟩
  · rintro k fr M' ⟨i, n, hi, rfl, h0, h3, h6, h7, h8, rfl, hn⟩
    simp -implicitDefEqProofs (maxSteps := 1000000) (disch := omega) only [↓xsP, ↓vc_seq, xsQ, xsT, xsR, xsD, ↓reduceIte, reduceCtorEq, eq_self, ne_eq, imp_self, forall_const, Nat.reduceEqDiff, Nat.reduceAdd, Nat.reduceSub, Nat.reduceMul, Nat.reduceLT, Nat.reduceLeDiff, Nat.reduceBEq, Nat.reduceDiv, Nat.reduceMod, Int.reduceToNat, Int.reduceNeg, Int.reduceAdd, Int.reduceSub, Int.reduceMul, Int.reduceEq, Int.reduceNe, Int.reduceLT, Int.reduceLE, Int.reduceGT, Int.reduceGE, h0, h3, h6, h7, h8]
    refine condI_prop (fun hlt => ?_) (fun hlt => ?_)
    · simp -implicitDefEqProofs (maxSteps := 1000000) (disch := omega) only [↓xsP, ↓vc_seq, xsQ, xsT, xsR, xsD, ↓reduceIte, reduceCtorEq, eq_self, ne_eq, imp_self, forall_const, Nat.reduceEqDiff, Nat.reduceAdd, Nat.reduceSub, Nat.reduceMul, Nat.reduceLT, Nat.reduceLeDiff, Nat.reduceBEq, Nat.reduceDiv, Nat.reduceMod, Int.reduceToNat, Int.reduceNeg, Int.reduceAdd, Int.reduceSub, Int.reduceMul, Int.reduceEq, Int.reduceNe, Int.reduceLT, Int.reduceLE, Int.reduceGT, Int.reduceGE, h0, h3, h6, h7, h8]
      refine newI_intro fun id hid => ?_
      simp -implicitDefEqProofs (maxSteps := 1000000) (disch := omega) only [↓xsP, ↓vc_seq, xsQ, xsT, xsR, xsD, ↓reduceIte, reduceCtorEq, eq_self, ne_eq, imp_self, forall_const, Nat.reduceEqDiff, Nat.reduceAdd, Nat.reduceSub, Nat.reduceMul, Nat.reduceLT, Nat.reduceLeDiff, Nat.reduceBEq, Nat.reduceDiv, Nat.reduceMod, Int.reduceToNat, Int.reduceNeg, Int.reduceAdd, Int.reduceSub, Int.reduceMul, Int.reduceEq, Int.reduceNe, Int.reduceLT, Int.reduceLE, Int.reduceGT, Int.reduceGE, h0, h3, h6, h7, h8]
      have hi' : i < h.length := by omega
      have hps := psum_take hi'
      have hxm : h.getD i default ∈ h := by
        simp [List.getD_eq_getElem?_getD, List.getElem?_eq_getElem hi']
      refine ⟨h.length - (i + 1), M', by omega, le_new (Mem.le_refl _) hid, i + 1, IntKind.i64.wrap (n + (h.getD i default).ans.pairs.length), by omega, rfl, rfl, by simp, rfl, fun h200 => ?_⟩
      have hb := hp _ hxm
      have h1 := psum_le (B := 140737488355328) (h.take i) fun x hx => hp x (List.mem_of_mem_take hx)
      have h2 : (h.take i).length * 140737488355328 ≤ 200 * 140737488355328 := Nat.mul_le_mul_right _ (by simp; omega)
      rw [hn (by omega), hps, wrap_in (by omega) (by omega)]
      omega
    · simp -implicitDefEqProofs (maxSteps := 1000000) (disch := omega) only [↓xsP, ↓vc_seq, xsQ, xsT, xsR, xsD, ↓reduceIte, reduceCtorEq, eq_self, ne_eq, imp_self, forall_const, Nat.reduceEqDiff, Nat.reduceAdd, Nat.reduceSub, Nat.reduceMul, Nat.reduceLT, Nat.reduceLeDiff, Nat.reduceBEq, Nat.reduceDiv, Nat.reduceMod, Int.reduceToNat, Int.reduceNeg, Int.reduceAdd, Int.reduceSub, Int.reduceMul, Int.reduceEq, Int.reduceNe, Int.reduceLT, Int.reduceLE, Int.reduceGT, Int.reduceGE, h0, h3, h6, h7, h8]
      refine gI_prop_f (fun hc => ?_) (fun hc => ?_)
      · simp -implicitDefEqProofs (maxSteps := 1000000) (disch := omega) only [↓xsP, ↓vc_seq, xsQ, xsT, xsR, xsD, ↓reduceIte, reduceCtorEq, eq_self, ne_eq, imp_self, forall_const, Nat.reduceEqDiff, Nat.reduceAdd, Nat.reduceSub, Nat.reduceMul, Nat.reduceLT, Nat.reduceLeDiff, Nat.reduceBEq, Nat.reduceDiv, Nat.reduceMod, Int.reduceToNat, Int.reduceNeg, Int.reduceAdd, Int.reduceSub, Int.reduceMul, Int.reduceEq, Int.reduceNe, Int.reduceLT, Int.reduceLE, Int.reduceGT, Int.reduceGE, h0, h3, h6, h7, h8, hc]
        refine condI_prop (fun hc2 => ?_) (fun hc2 => ?_)
        · simp -implicitDefEqProofs (maxSteps := 1000000) (disch := omega) only [↓xsP, ↓vc_seq, xsQ, xsT, xsR, xsD, ↓reduceIte, reduceCtorEq, eq_self, ne_eq, imp_self, forall_const, Nat.reduceEqDiff, Nat.reduceAdd, Nat.reduceSub, Nat.reduceMul, Nat.reduceLT, Nat.reduceLeDiff, Nat.reduceBEq, Nat.reduceDiv, Nat.reduceMod, Int.reduceToNat, Int.reduceNeg, Int.reduceAdd, Int.reduceSub, Int.reduceMul, Int.reduceEq, Int.reduceNe, Int.reduceLT, Int.reduceLE, Int.reduceGT, Int.reduceGE, h0, h3]
          exact fin_ok (Mem.le_refl _) ⟨.inl rfl, rfl⟩
        · simp -implicitDefEqProofs (maxSteps := 1000000) (disch := omega) only [↓xsP, ↓vc_seq, xsQ, xsT, xsR, xsD, ↓reduceIte, reduceCtorEq, eq_self, ne_eq, imp_self, forall_const, Nat.reduceEqDiff, Nat.reduceAdd, Nat.reduceSub, Nat.reduceMul, Nat.reduceLT, Nat.reduceLeDiff, Nat.reduceBEq, Nat.reduceDiv, Nat.reduceMod, Int.reduceToNat, Int.reduceNeg, Int.reduceAdd, Int.reduceSub, Int.reduceMul, Int.reduceEq, Int.reduceNe, Int.reduceLT, Int.reduceLE, Int.reduceGT, Int.reduceGE, h0, h3]
          refine fin_ok (Mem.le_refl _) ⟨.inr ⟨rfl, by omega, ?_⟩, rfl⟩
          have hil : i = h.length := by omega
          have hn' := hn (by omega)
          rw [hil, List.take_of_length_le (Nat.le_refl _)] at hn'
          omega
      · simp -implicitDefEqProofs (maxSteps := 1000000) (disch := omega) only [↓xsP, ↓vc_seq, xsQ, xsT, xsR, xsD, ↓reduceIte, reduceCtorEq, eq_self, ne_eq, imp_self, forall_const, Nat.reduceEqDiff, Nat.reduceAdd, Nat.reduceSub, Nat.reduceMul, Nat.reduceLT, Nat.reduceLeDiff, Nat.reduceBEq, Nat.reduceDiv, Nat.reduceMod, Int.reduceToNat, Int.reduceNeg, Int.reduceAdd, Int.reduceSub, Int.reduceMul, Int.reduceEq, Int.reduceNe, Int.reduceLT, Int.reduceLE, Int.reduceGT, Int.reduceGE, h0, h3, h6, h7, h8, hc]
        exact fin_ok (Mem.le_refl _) ⟨.inl rfl, rfl⟩
end Go.X

/- What the reference's MayPast does. -/


set_option linter.unusedVariables false
set_option linter.unusedSimpArgs false
set_option maxHeartbeats 20000000
set_option maxRecDepth 100000
namespace Go.X
open Go.Proofs.Try (prog)

noncomputable def mstep (x : Evt) (s : List Bool × List Opn) : Option (List Bool × List Opn) :=
  if x.who < 0 ∨ 6 ≤ x.who ∨ x.ret ≠ s.1.getD x.who.toNat false then none
  else if (x.ret = false ∧ (mayOpB x.op = false ∨ x.ans ≠ ans0)) ∨ (x.ret = true ∧ x.op ≠ s.2.getD x.who.toNat default) then none
  else some (s.1.set x.who.toNat (!x.ret), s.2.set x.who.toNat x.op)
noncomputable def mrun : List Evt → List Bool × List Opn → Option (List Bool × List Opn)
  | [], s => some s
  | x :: r, s => (mstep x s).bind (mrun r)
noncomputable def mayP (h : List Evt) : Bool := (mrun h (List.replicate 6 false, List.replicate 6 ⟨0, 0, 0, 0⟩)).isSome

theorem drop_bool (on : List Bool) (w : Nat) (hw : w < on.length) : (on.map Lf.bool).drop w = Lf.bool (on.getD w false) :: (on.map Lf.bool).drop (w + 1) := by
  rw [List.drop_eq_getElem_cons (by simpa using hw)]
  simp [List.getD_eq_getElem?_getD, hw]
theorem drop_ops : ∀ (ops : List Opn) (w : Nat), w < ops.length → (ops.map Opn.row).flatten.drop (w * 4) = (ops.getD w default).row ++ (ops.map Opn.row).flatten.drop (w * 4 + 4)
  | [], w, hw => by simp at hw
  | o :: r, 0, _ => by simp [Opn.row]
  | o :: r, w + 1, hw => by
    have ih := drop_ops r w (by simpa using hw)
    have e : (w + 1) * 4 = w * 4 + 1 + 1 + 1 + 1 := by omega
    rw [e]
    simpa [Opn.row] using ih
theorem set_bool (on : List Bool) (w : Nat) (b : Bool) (hw : w < on.length) : (on.map Lf.bool).take w ++ [Lf.bool b] ++ (on.map Lf.bool).drop (w + 1) = (on.set w b).map Lf.bool := by
  rw [List.map_set, List.set_eq_take_append_cons_drop, if_pos (by simpa using hw)]
  simp
theorem set_ops : ∀ (ops : List Opn) (w : Nat) (o : Opn), w < ops.length → (ops.map Opn.row).flatten.take (w * 4) ++ o.row ++ (ops.map Opn.row).flatten.drop (w * 4 + 4) = ((ops.set w o).map Opn.row).flatten
  | [], w, _, hw => by simp at hw
  | o :: r, 0, _, _ => by simp [Opn.row]
  | o :: r, w + 1, o', hw => by
    have ih := set_ops r w o' (by simpa using hw)
    have e : (w + 1) * 4 = w * 4 + 1 + 1 + 1 + 1 := by omega
    rw [e]
    simpa [Opn.row] using ih

theorem mayPast_spec (h : List Evt) (hs : Small h) (M : Mem) : XCalls Go.Proofs.Try.prog 33 [.l (.sl (h.map Evt.row))] M fun r M' => r = .l (.bool (mayP h)) ∧ M' = M := by
  refine xcalls_intro (rs := [.tmp 2]) Go.Proofs.Try.func33 rfl (by kernel_rfl) rfl rfl (by kernel_rfl) (by simp) ?_
  simp -implicitDefEqProofs (maxSteps := 1000000) (disch := omega) only [↓xsP, ↓vc_seq, xsQ, xsT, xsR, xsD, ↓reduceIte, reduceCtorEq, eq_self, ne_eq, imp_self, forall_const, Nat.reduceEqDiff, Nat.reduceAdd, Nat.reduceSub, Nat.reduceMul, Nat.reduceLT, Nat.reduceLeDiff, Nat.reduceBEq, Nat.reduceDiv, Nat.reduceMod, Int.reduceToNat, Int.reduceNeg, Int.reduceAdd, Int.reduceSub, Int.reduceMul, Int.reduceEq, Int.reduceNe, Int.reduceLT, Int.reduceLE, Int.reduceGT, Int.reduceGE]
  refine newI_intro fun idb hidb => ?_
  simp -implicitDefEqProofs (maxSteps := 1000000) (disch := omega) only [↓xsP, ↓vc_seq, xsQ, xsT, xsR, xsD, ↓reduceIte, reduceCtorEq, eq_self, ne_eq, imp_self, forall_const, Nat.reduceEqDiff, Nat.reduceAdd, Nat.reduceSub, Nat.reduceMul, Nat.reduceLT, Nat.reduceLeDiff, Nat.reduceBEq, Nat.reduceDiv, Nat.reduceMod, Int.reduceToNat, Int.reduceNeg, Int.reduceAdd, Int.reduceSub, Int.reduceMul, Int.reduceEq, Int.reduceNe, Int.reduceLT, Int.reduceLE, Int.reduceGT, Int.reduceGE]
  refine newI_intro fun ido hido => ?_
  obtain ⟨hbo, hido⟩ := bnd_new hido
  simp -implicitDefEqProofs (maxSteps := 1000000) (disch := omega) only [↓xsP, ↓vc_seq, xsQ, xsT, xsR, xsD, ↓reduceIte, reduceCtorEq, eq_self, ne_eq, imp_self, forall_const, Nat.reduceEqDiff, Nat.reduceAdd, Nat.reduceSub, Nat.reduceMul, Nat.reduceLT, Nat.reduceLeDiff, Nat.reduceBEq, Nat.reduceDiv, Nat.reduceMod, Int.reduceToNat, Int.reduceNeg, Int.reduceAdd, Int.reduceSub, Int.reduceMul, Int.reduceEq, Int.reduceNe, Int.reduceLT, Int.reduceLE, Int.reduceGT, Int.reduceGE]
  refine loopI_of (xloop (by kernel_rfl) (fun k fr M' => ∃ (i : Nat) (on : List Bool) (ops : List Opn), i ≤ h.length ∧ k = h.length - i ∧ fr 3 = .l (.ptr idb 0 0) ∧ fr 4 = .l (.ptr ido 0 0) ∧ fr 7 = .l (.sl (h.map Evt.row)) ∧ fr 8 = .l (.int .i64 h.length) ∧ fr 9 = .l (.int .i64 i) ∧ 
    M' = (M.set idb (.cells 71 [on.map Lf.bool] 0)).set ido (.cells 72 [(ops.map Opn.row).flatten] 0) ∧ on.length = 6 ∧ ops.length = 6 ∧ mrun h (List.replicate 6 false, List.replicate 6 ⟨0, 0, 0, 0⟩) = mrun (h.drop i) (on, ops)) h.length ?_ ?_)
  · exact ⟨0, List.replicate 6 false, List.replicate 6 ⟨0, 0, 0, 0⟩, Nat.zero_le _, rfl, by simp -implicitDefEqProofs (maxSteps := 1000000) (disch := omega) only [↓xsP, ↓vc_seq, xsQ, xsT, xsR, xsD, ↓reduceIte, reduceCtorEq, eq_self, ne_eq, imp_self, forall_const, Nat.reduceEqDiff, Nat.reduceAdd, Nat.reduceSub, Nat.reduceMul, Nat.reduceLT, Nat.reduceLeDiff, Nat.reduceBEq, Nat.reduceDiv, Nat.reduceMod, Int.reduceToNat, Int.reduceNeg, Int.reduceAdd, Int.reduceSub, Int.reduceMul, Int.reduceEq, Int.reduceNe, Int.reduceLT, Int.reduceLE, Int.reduceGT, Int.reduceGE], by simp -implicitDefEqProofs (maxSteps := 1000000) (disch := omega) only [↓xsP, ↓vc_seq, xsQ, xsT, xsR, xsD, ↓reduceIte, reduceCtorEq, eq_self, ne_eq, imp_self, forall_const, Nat.reduceEqDiff, Nat.reduceAdd, Nat.reduceSub, Nat.reduceMul, Nat.reduceLT, Nat.reduceLeDiff, Nat.reduceBEq, Nat.reduceDiv, Nat.reduceMod, Int.reduceToNat, Int.reduceNeg, Int.reduceAdd, Int.reduceSub, Int.reduceMul, Int.reduceEq, Int.reduceNe, Int.reduceLT, Int.reduceLE, Int.reduceGT, Int.reduceGE], by simp -implicitDefEqProofs (maxSteps := 1000000) (disch := omega) only [↓xsP, ↓vc_seq, xsQ, xsT, xsR, xsD, ↓reduceIte, reduceCtorEq, eq_self, ne_eq, imp_self, forall_const, Nat.reduceEqDiff, Nat.reduceAdd, Nat.reduceSub, Nat.reduceMul, Nat.reduceLT, Nat.reduceLeDiff, Nat.reduceBEq, Nat.reduceDiv, Nat.reduceMod, Int.reduceToNat, Int.reduceNeg, Int.reduceAdd, Int.reduceSub, Int.reduceMul, Int.reduceEq, Int.reduceNe, Int.reduceLT, Int.reduceLE, Int.reduceGT, Int.reduceGE], by simp -implicitDefEqProofs (maxSteps := 1000000) (disch := omega) only [↓xsP, ↓vc_seq, xsQ, xsT, xsR, xsD, ↓reduceIte, reduceCtorEq, eq_self, ne_eq, imp_self, forall_const, Nat.reduceEqDiff, Nat.reduceAdd, Nat.reduceSub, Nat.reduceMul, Nat.reduceLT, Nat.reduceLeDiff, Nat.reduceBEq, Nat.reduceDiv, Nat.reduceMod, Int.reduceToNat, Int.reduceNeg, Int.reduceAdd, Int.reduceSub, Int.reduceMul, Int.reduceEq, Int.reduceNe, Int.reduceLT, Int.reduceLE, Int.reduceGT, Int.reduceGE], by simp -implicitDefEqProofs (maxSteps := 1000000) (disch := omega) only [↓xsP, ↓vc_seq, xsQ, xsT, xsR, xsD, ↓reduceIte, reduceCtorEq, eq_self, ne_eq, imp_self, forall_const, Nat.reduceEqDiff, Nat.reduceAdd, Nat.reduceSub, Nat.reduceMul, Nat.reduceLT, Nat.reduceLeDiff, Nat.reduceBEq, Nat.reduceDiv, Nat.reduceMod, Int.reduceToNat, Int.reduceNeg, Int.reduceAdd, Int.reduceSub, Int.reduceMul, Int.reduceEq, Int.reduceNe, Int.reduceLT, Int.reduceLE, Int.reduceGT, Int.reduceGE, Int.cast_ofNat_Int], rfl, rfl, rfl, rfl⟩
  · rintro k fr M' ⟨i, on, ops, hi, rfl, h3, h4, h7, h8, h9, hM', hon, hops, hrun⟩
    simp -implicitDefEqProofs (maxSteps := 1000000) (disch := omega) only [↓xsP, ↓vc_seq, xsQ, xsT, xsR, xsD, ↓reduceIte, reduceCtorEq, eq_self, ne_eq, imp_self, forall_const, Nat.reduceEqDiff, Nat.reduceAdd, Nat.reduceSub, Nat.reduceMul, Nat.reduceLT, Nat.reduceLeDiff, Nat.reduceBEq, Nat.reduceDiv, Nat.reduceMod, Int.reduceToNat, Int.reduceNeg, Int.reduceAdd, Int.reduceSub, Int.reduceMul, Int.reduceEq, Int.reduceNe, Int.reduceLT, Int.reduceLE, Int.reduceGT, Int.reduceGE, h3, h4, h7, h8, h9]
    refine condI_prop (fun hlt => ?_) (fun hlt => ?_)
    · simp -implicitDefEqProofs (maxSteps := 1000000) (disch := omega) only [↓xsP, ↓vc_seq, xsQ, xsT, xsR, xsD, ↓reduceIte, reduceCtorEq, eq_self, ne_eq, imp_self, forall_const, Nat.reduceEqDiff, Nat.reduceAdd, Nat.reduceSub, Nat.reduceMul, Nat.reduceLT, Nat.reduceLeDiff, Nat.reduceBEq, Nat.reduceDiv, Nat.reduceMod, Int.reduceToNat, Int.reduceNeg, Int.reduceAdd, Int.reduceSub, Int.reduceMul, Int.reduceEq, Int.reduceNe, Int.reduceLT, Int.reduceLE, Int.reduceGT, Int.reduceGE, h3, h4, h7, h8, h9]
      refine newI_intro fun id hid => ?_
      simp -implicitDefEqProofs (maxSteps := 1000000) (disch := omega) only [↓xsP, ↓vc_seq, xsQ, xsT, xsR, xsD, ↓reduceIte, reduceCtorEq, eq_self, ne_eq, imp_self, forall_const, Nat.reduceEqDiff, Nat.reduceAdd, Nat.reduceSub, Nat.reduceMul, Nat.reduceLT, Nat.reduceLeDiff, Nat.reduceBEq, Nat.reduceDiv, Nat.reduceMod, Int.reduceToNat, Int.reduceNeg, Int.reduceAdd, Int.reduceSub, Int.reduceMul, Int.reduceEq, Int.reduceNe, Int.reduceLT, Int.reduceLE, Int.reduceGT, Int.reduceGE, h3, h4, h7, h8, h9]
      refine xquiet (by kernel_rfl) (by kernel_rfl) (by kernel_rfl) ?_
      have hi' : i < h.length := by omega
      have hdrop : h.drop i = h.getD i default :: h.drop (i + 1) := by
        rw [List.drop_eq_getElem_cons hi', List.getD_eq_getElem?_getD, List.getElem?_eq_getElem hi', Option.getD_some]
      have hxm : h.getD i default ∈ h := by
        simp [List.getD_eq_getElem?_getD, List.getElem?_eq_getElem hi']
      rw [hdrop] at hrun
      have hsm := hs.2 _ hxm
      have hs1 := hs.1
      simp -implicitDefEqProofs (maxSteps := 1000000) (disch := omega) only [↓xsP, ↓vc_seq, xsQ, xsT, xsR, xsD, ↓reduceIte, reduceCtorEq, eq_self, ne_eq, imp_self, forall_const, Nat.reduceEqDiff, Nat.reduceAdd, Nat.reduceSub, Nat.reduceMul, Nat.reduceLT, Nat.reduceLeDiff, Nat.reduceBEq, Nat.reduceDiv, Nat.reduceMod, Int.reduceToNat, Int.reduceNeg, Int.reduceAdd, Int.reduceSub, Int.reduceMul, Int.reduceEq, Int.reduceNe, Int.reduceLT, Int.reduceLE, Int.reduceGT, Int.reduceGE, h3, h4, h7, h8, h9]
      generalize h.getD i default = x at hxm hrun hsm ⊢
      have hMb : M' idb = some (.cells 71 [on.map Lf.bool] 0) := by rw [hM', Mem.set_ne _ _ _ _ (by omega)]; exact Mem.set_eq _ _ _
      have hMo : M' ido = some (.cells 72 [(ops.map Opn.row).flatten] 0) := by rw [hM']; exact Mem.set_eq _ _ _
      have hbid : idb < id := lt_of_bnd hid hMb
      have hoid : ido < id := lt_of_bnd hid hMo
      have hMle : ∀ b, M.le (M'.set id b) := fun b => by
        rw [hM']
        exact le_new (le_new (le_new (Mem.le_refl _) hidb) hido) fun j hj => hido j (by omega)
      have hbad : ∀ b, mstep x (on, ops) = none → @finI prog (.l (.bool false)) (M'.set id b) ⟨fun r M' => r = .l (.bool (mayP h)) ∧ M' = M⟩ := fun b hb => by
        refine fin_ok (hMle b) ⟨?_, rfl⟩
        simp only [mayP, hrun, mrun, hb, Option.bind_none, Option.isSome_none]
      refine gI_prop_f (fun hw => ?_) (fun hw => ?_)
      · simp -implicitDefEqProofs (maxSteps := 1000000) (disch := omega) only [↓xsP, ↓vc_seq, xsQ, xsT, xsR, xsD, ↓reduceIte, reduceCtorEq, eq_self, ne_eq, imp_self, forall_const, Nat.reduceEqDiff, Nat.reduceAdd, Nat.reduceSub, Nat.reduceMul, Nat.reduceLT, Nat.reduceLeDiff, Nat.reduceBEq, Nat.reduceDiv, Nat.reduceMod, Int.reduceToNat, Int.reduceNeg, Int.reduceAdd, Int.reduceSub, Int.reduceMul, Int.reduceEq, Int.reduceNe, Int.reduceLT, Int.reduceLE, Int.reduceGT, Int.reduceGE, h3, h4, h7, h8, h9, hw]
        refine gI_prop_f (fun hw2 => ?_) (fun hw2 => ?_)
        · have hw3 : x.who.toNat < 6 := by omega
          have hd1 := drop_bool on x.who.toNat (by omega)
          have hd2 := drop_ops ops x.who.toNat (by omega)
          have hif : (0 ≤ x.who ∧ x.who < ((6 : Nat) : Int)) = True := eq_true ⟨by omega, by omega⟩
          have hwl : x.who.toNat < on.length := by omega
          have hln : (ops.map Opn.row).flatten.length = 24 := by
            match ops, hops with
            | [_, _, _, _, _, _], _ => rfl
          have hle1 : (x.who.toNat + 1 ≤ 6) = True := eq_true (by omega)
          have hle2 : (x.who.toNat * 4 + 4 ≤ 24) = True := eq_true (by omega)
          have hso := set_ops ops x.who.toNat x.op (by omega)
          simp only [Opn.row] at hso
          have hl1 : (on.map Lf.bool).length = 6 := by simp [hon]
          simp -implicitDefEqProofs (maxSteps := 1000000) (disch := omega) only [↓xsP, ↓vc_seq, xsQ, xsT, xsR, xsD, ↓reduceIte, reduceCtorEq, eq_self, ne_eq, imp_self, forall_const, Nat.reduceEqDiff, Nat.reduceAdd, Nat.reduceSub, Nat.reduceMul, Nat.reduceLT, Nat.reduceLeDiff, Nat.reduceBEq, Nat.reduceDiv, Nat.reduceMod, Int.reduceToNat, Int.reduceNeg, Int.reduceAdd, Int.reduceSub, Int.reduceMul, Int.reduceEq, Int.reduceNe, Int.reduceLT, Int.reduceLE, Int.reduceGT, Int.reduceGE, h3, h4, h7, h8, h9, hw, hw2, hMb, hd1, hif]
          refine condI_intro (fun hg => ?_) (fun hg => ?_)
          · simp -implicitDefEqProofs (maxSteps := 1000000) (disch := omega) only [↓xsP, ↓vc_seq, xsQ, xsT, xsR, xsD, ↓reduceIte, reduceCtorEq, eq_self, ne_eq, imp_self, forall_const, Nat.reduceEqDiff, Nat.reduceAdd, Nat.reduceSub, Nat.reduceMul, Nat.reduceLT, Nat.reduceLeDiff, Nat.reduceBEq, Nat.reduceDiv, Nat.reduceMod, Int.reduceToNat, Int.reduceNeg, Int.reduceAdd, Int.reduceSub, Int.reduceMul, Int.reduceEq, Int.reduceNe, Int.reduceLT, Int.reduceLE, Int.reduceGT, Int.reduceGE, h3, h4, h7, h8, h9]
            refine hbad _ ?_
            rw [mstep, if_pos (.inr (.inr fun e => by simp [e] at hg))]
          · have hro : x.ret = on.getD x.who.toNat false := by simpa using hg
            have hmst : mstep x (on, ops) = if (x.ret = false ∧ (mayOpB x.op = false ∨ x.ans ≠ ans0)) ∨ (x.ret = true ∧ x.op ≠ ops.getD x.who.toNat default) then none
                else some (on.set x.who.toNat (!x.ret), ops.set x.who.toNat x.op) := by
              rw [mstep, if_neg]
              rintro (h1 | h1 | h1)
              · omega
              · omega
              · exact h1 hro
            simp -implicitDefEqProofs (maxSteps := 1000000) (disch := omega) only [↓xsP, ↓vc_seq, xsQ, xsT, xsR, xsD, ↓reduceIte, reduceCtorEq, eq_self, ne_eq, imp_self, forall_const, Nat.reduceEqDiff, Nat.reduceAdd, Nat.reduceSub, Nat.reduceMul, Nat.reduceLT, Nat.reduceLeDiff, Nat.reduceBEq, Nat.reduceDiv, Nat.reduceMod, Int.reduceToNat, Int.reduceNeg, Int.reduceAdd, Int.reduceSub, Int.reduceMul, Int.reduceEq, Int.reduceNe, Int.reduceLT, Int.reduceLE, Int.reduceGT, Int.reduceGE, h3, h4, h7, h8, h9]
            refine xquiet (by kernel_rfl) (by kernel_rfl) (by kernel_rfl) ?_
            simp -implicitDefEqProofs (maxSteps := 1000000) (disch := omega) only [↓xsP, ↓vc_seq, xsQ, xsT, xsR, xsD, ↓reduceIte, reduceCtorEq, eq_self, ne_eq, imp_self, forall_const, Nat.reduceEqDiff, Nat.reduceAdd, Nat.reduceSub, Nat.reduceMul, Nat.reduceLT, Nat.reduceLeDiff, Nat.reduceBEq, Nat.reduceDiv, Nat.reduceMod, Int.reduceToNat, Int.reduceNeg, Int.reduceAdd, Int.reduceSub, Int.reduceMul, Int.reduceEq, Int.reduceNe, Int.reduceLT, Int.reduceLE, Int.reduceGT, Int.reduceGE, h3, h4, h7, h8, h9]
            cases hret : x.ret with
            | false =>
              rw [hret] at hmst
              simp -implicitDefEqProofs (maxSteps := 1000000) (disch := omega) only [↓xsP, ↓vc_seq, xsQ, xsT, xsR, xsD, ↓reduceIte, reduceCtorEq, eq_self, ne_eq, imp_self, forall_const, Nat.reduceEqDiff, Nat.reduceAdd, Nat.reduceSub, Nat.reduceMul, Nat.reduceLT, Nat.reduceLeDiff, Nat.reduceBEq, Nat.reduceDiv, Nat.reduceMod, Int.reduceToNat, Int.reduceNeg, Int.reduceAdd, Int.reduceSub, Int.reduceMul, Int.reduceEq, Int.reduceNe, Int.reduceLT, Int.reduceLE, Int.reduceGT, Int.reduceGE, h3, h4, h7, h8, h9]
              refine dcallI_of (mayOpR_spec x.op _) ?_
              cases hmo : mayOpB x.op with
              | false =>
                simp -implicitDefEqProofs (maxSteps := 1000000) (disch := omega) only [↓xsP, ↓vc_seq, xsQ, xsT, xsR, xsD, ↓reduceIte, reduceCtorEq, eq_self, ne_eq, imp_self, forall_const, Nat.reduceEqDiff, Nat.reduceAdd, Nat.reduceSub, Nat.reduceMul, Nat.reduceLT, Nat.reduceLeDiff, Nat.reduceBEq, Nat.reduceDiv, Nat.reduceMod, Int.reduceToNat, Int.reduceNeg, Int.reduceAdd, Int.reduceSub, Int.reduceMul, Int.reduceEq, Int.reduceNe, Int.reduceLT, Int.reduceLE, Int.reduceGT, Int.reduceGE, h3, h4, h7, h8, h9]
                exact hbad _ (by rw [hmst, if_pos (.inl ⟨rfl, .inl hmo⟩)])
              | true =>
                simp -implicitDefEqProofs (maxSteps := 1000000) (disch := omega) only [↓xsP, ↓vc_seq, xsQ, xsT, xsR, xsD, ↓reduceIte, reduceCtorEq, eq_self, ne_eq, imp_self, forall_const, Nat.reduceEqDiff, Nat.reduceAdd, Nat.reduceSub, Nat.reduceMul, Nat.reduceLT, Nat.reduceLeDiff, Nat.reduceBEq, Nat.reduceDiv, Nat.reduceMod, Int.reduceToNat, Int.reduceNeg, Int.reduceAdd, Int.reduceSub, Int.reduceMul, Int.reduceEq, Int.reduceNe, Int.reduceLT, Int.reduceLE, Int.reduceGT, Int.reduceGE, h3, h4, h7, h8, h9]
                refine dcallI_of (zero_spec x.ans (by omega) _) ?_
                simp -implicitDefEqProofs (maxSteps := 1000000) (disch := omega) only [↓xsP, ↓vc_seq, xsQ, xsT, xsR, xsD, ↓reduceIte, reduceCtorEq, eq_self, ne_eq, imp_self, forall_const, Nat.reduceEqDiff, Nat.reduceAdd, Nat.reduceSub, Nat.reduceMul, Nat.reduceLT, Nat.reduceLeDiff, Nat.reduceBEq, Nat.reduceDiv, Nat.reduceMod, Int.reduceToNat, Int.reduceNeg, Int.reduceAdd, Int.reduceSub, Int.reduceMul, Int.reduceEq, Int.reduceNe, Int.reduceLT, Int.reduceLE, Int.reduceGT, Int.reduceGE, h3, h4, h7, h8, h9]
                refine gI_f (fun hz => ?_) (fun hz => ?_)
                · have hz' : x.ans = ans0 := bof_iff.1 (by simpa using hz)
                  rw [if_neg (by simp [hz', hmo])] at hmst
                  simp -implicitDefEqProofs (maxSteps := 1000000) (disch := omega) only [↓xsP, ↓vc_seq, xsQ, xsT, xsR, xsD, ↓reduceIte, reduceCtorEq, eq_self, ne_eq, imp_self, forall_const, Nat.reduceEqDiff, Nat.reduceAdd, Nat.reduceSub, Nat.reduceMul, Nat.reduceLT, Nat.reduceLeDiff, Nat.reduceBEq, Nat.reduceDiv, Nat.reduceMod, Int.reduceToNat, Int.reduceNeg, Int.reduceAdd, Int.reduceSub, Int.reduceMul, Int.reduceEq, Int.reduceNe, Int.reduceLT, Int.reduceLE, Int.reduceGT, Int.reduceGE, h3, h4, h7, h8, h9, hz]
                  refine xwrite (fun n0 => [ (10, idb), (12, ido)]) [10, 12] [] [[], [], [10], [10], [], [], [], [10], [10], [], [], [], []] (by kernel_rfl) (by kernel_rfl) (by kernel_rfl) (by kernel_rfl) (fun n0 hn0 => ⟨rfl, ?_, ?_⟩)
                  · obtain ⟨h7n, hn0⟩ := bnd_new hn0
                    exact TOk_cons (.inl (by omega)) (TOk_cons (.inl (by omega)) (TOk_nil _ _))
                  · obtain ⟨h7n, hn0⟩ := bnd_new hn0
                    simp -implicitDefEqProofs (maxSteps := 1000000) (disch := omega) only [↓xsP, ↓vc_seq, xsQ, xsT, xsR, xsD, ↓reduceIte, reduceCtorEq, eq_self, ne_eq, imp_self, forall_const, Nat.reduceEqDiff, Nat.reduceAdd, Nat.reduceSub, Nat.reduceMul, Nat.reduceLT, Nat.reduceLeDiff, Nat.reduceBEq, Nat.reduceDiv, Nat.reduceMod, Int.reduceToNat, Int.reduceNeg, Int.reduceAdd, Int.reduceSub, Int.reduceMul, Int.reduceEq, Int.reduceNe, Int.reduceLT, Int.reduceLE, Int.reduceGT, Int.reduceGE, h3, h4, h7, h8, h9, hif, hMb, hMo, hon, hln, hle1, hle2, set_bool on x.who.toNat true hwl, hso]
                    have hrun' : mrun h (List.replicate 6 false, List.replicate 6 ⟨0, 0, 0, 0⟩) = mrun (h.drop (i + 1)) (on.set x.who.toNat true, ops.set x.who.toNat x.op) := by
                      rw [hrun, mrun, hmst]
                      simp
                    refine ⟨h.length - (i + 1), (M.set idb (.cells 71 [(on.set x.who.toNat true).map Lf.bool] 0)).set ido (.cells 72 [((ops.set x.who.toNat x.op).map Opn.row).flatten] 0), by omega, ?_, i + 1, on.set x.who.toNat true, ops.set x.who.toNat x.op, by omega, rfl, by simp, rfl, by simp [hon], by simp [hops], hrun'⟩
                    refine le_end (by omega) (Mem.set_eq _ _ _) (by rw [Mem.set_ne _ _ _ _ (by omega)]; exact Mem.set_eq _ _ _) (fun j b hj => ?_)
                    have hj' := lt_of_bnd hidb hj
                    rw [hM']
                    simp only [Mem.set_app]
                    (repeat rw [if_neg (by omega)])
                    exact hj
                · simp -implicitDefEqProofs (maxSteps := 1000000) (disch := omega) only [↓xsP, ↓vc_seq, xsQ, xsT, xsR, xsD, ↓reduceIte, reduceCtorEq, eq_self, ne_eq, imp_self, forall_const, Nat.reduceEqDiff, Nat.reduceAdd, Nat.reduceSub, Nat.reduceMul, Nat.reduceLT, Nat.reduceLeDiff, Nat.reduceBEq, Nat.reduceDiv, Nat.reduceMod, Int.reduceToNat, Int.reduceNeg, Int.reduceAdd, Int.reduceSub, Int.reduceMul, Int.reduceEq, Int.reduceNe, Int.reduceLT, Int.reduceLE, Int.reduceGT, Int.reduceGE, h3, h4, h7, h8, h9, hz]
                  have hz' : x.ans ≠ ans0 := fun e => by simp [e, bof_iff.2] at hz
                  exact hbad _ (by rw [hmst, if_pos (.inl ⟨rfl, .inr hz'⟩)])
            | true =>
              rw [hret] at hmst
              simp -implicitDefEqProofs (maxSteps := 1000000) (disch := omega) only [↓xsP, ↓vc_seq, xsQ, xsT, xsR, xsD, ↓reduceIte, reduceCtorEq, eq_self, ne_eq, imp_self, forall_const, Nat.reduceEqDiff, Nat.reduceAdd, Nat.reduceSub, Nat.reduceMul, Nat.reduceLT, Nat.reduceLeDiff, Nat.reduceBEq, Nat.reduceDiv, Nat.reduceMod, Int.reduceToNat, Int.reduceNeg, Int.reduceAdd, Int.reduceSub, Int.reduceMul, Int.reduceEq, Int.reduceNe, Int.reduceLT, Int.reduceLE, Int.reduceGT, Int.reduceGE, h3, h4, h7, h8, h9, hif, hMo, hd2]
              refine condI_intro (fun hg2 => ?_) (fun hg2 => ?_)
              · simp -implicitDefEqProofs (maxSteps := 1000000) (disch := omega) only [↓xsP, ↓vc_seq, xsQ, xsT, xsR, xsD, ↓reduceIte, reduceCtorEq, eq_self, ne_eq, imp_self, forall_const, Nat.reduceEqDiff, Nat.reduceAdd, Nat.reduceSub, Nat.reduceMul, Nat.reduceLT, Nat.reduceLeDiff, Nat.reduceBEq, Nat.reduceDiv, Nat.reduceMod, Int.reduceToNat, Int.reduceNeg, Int.reduceAdd, Int.reduceSub, Int.reduceMul, Int.reduceEq, Int.reduceNe, Int.reduceLT, Int.reduceLE, Int.reduceGT, Int.reduceGE, h3, h4, h7, h8, h9]
                refine hbad _ ?_
                rw [hmst, if_pos (.inr ⟨rfl, fun e => by simp [e] at hg2⟩)]
              · have heq : x.op = ops.getD x.who.toNat default := by
                  simp only [Bool.not_eq_false', Bool.and_eq_true, decide_eq_true_eq] at hg2
                  exact (opn_eq _ _).2 hg2
                rw [if_neg (by simp [heq])] at hmst
                simp -implicitDefEqProofs (maxSteps := 1000000) (disch := omega) only [↓xsP, ↓vc_seq, xsQ, xsT, xsR, xsD, ↓reduceIte, reduceCtorEq, eq_self, ne_eq, imp_self, forall_const, Nat.reduceEqDiff, Nat.reduceAdd, Nat.reduceSub, Nat.reduceMul, Nat.reduceLT, Nat.reduceLeDiff, Nat.reduceBEq, Nat.reduceDiv, Nat.reduceMod, Int.reduceToNat, Int.reduceNeg, Int.reduceAdd, Int.reduceSub, Int.reduceMul, Int.reduceEq, Int.reduceNe, Int.reduceLT, Int.reduceLE, Int.reduceGT, Int.reduceGE, h3, h4, h7, h8, h9]
                refine xwrite (fun n0 => [ (10, idb), (12, ido)]) [10, 12] [] [[], [], [10], [10], [], [], [], [10], [10], [], [], [], []] (by kernel_rfl) (by kernel_rfl) (by kernel_rfl) (by kernel_rfl) (fun n0 hn0 => ⟨rfl, ?_, ?_⟩)
                · obtain ⟨h7n, hn0⟩ := bnd_new hn0
                  exact TOk_cons (.inl (by omega)) (TOk_cons (.inl (by omega)) (TOk_nil _ _))
                · obtain ⟨h7n, hn0⟩ := bnd_new hn0
                  simp -implicitDefEqProofs (maxSteps := 1000000) (disch := omega) only [↓xsP, ↓vc_seq, xsQ, xsT, xsR, xsD, ↓reduceIte, reduceCtorEq, eq_self, ne_eq, imp_self, forall_const, Nat.reduceEqDiff, Nat.reduceAdd, Nat.reduceSub, Nat.reduceMul, Nat.reduceLT, Nat.reduceLeDiff, Nat.reduceBEq, Nat.reduceDiv, Nat.reduceMod, Int.reduceToNat, Int.reduceNeg, Int.reduceAdd, Int.reduceSub, Int.reduceMul, Int.reduceEq, Int.reduceNe, Int.reduceLT, Int.reduceLE, Int.reduceGT, Int.reduceGE, h3, h4, h7, h8, h9, hif, hMb, hMo, hon, hln, hle1, hle2, set_bool on x.who.toNat false hwl, hso]
                  have hrun' : mrun h (List.replicate 6 false, List.replicate 6 ⟨0, 0, 0, 0⟩) = mrun (h.drop (i + 1)) (on.set x.who.toNat false, ops.set x.who.toNat x.op) := by
                    rw [hrun, mrun, hmst]
                    simp
                  refine ⟨h.length - (i + 1), (M.set idb (.cells 71 [(on.set x.who.toNat false).map Lf.bool] 0)).set ido (.cells 72 [((ops.set x.who.toNat x.op).map Opn.row).flatten] 0), by omega, ?_, i + 1, on.set x.who.toNat false, ops.set x.who.toNat x.op, by omega, rfl, by simp, rfl, by simp [hon], by simp [hops], hrun'⟩
                  refine le_end (by omega) (Mem.set_eq _ _ _) (by rw [Mem.set_ne _ _ _ _ (by omega)]; exact Mem.set_eq _ _ _) (fun j b hj => ?_)
                  have hj' := lt_of_bnd hidb hj
                  rw [hM']
                  simp only [Mem.set_app]
                  (repeat rw [if_neg (by omega)])
                  exact hj
        · simp -implicitDefEqProofs (maxSteps := 1000000) (disch := omega) only [↓xsP, ↓vc_seq, xsQ, xsT, xsR, xsD, ↓reduceIte, reduceCtorEq, eq_self, ne_eq, imp_self, forall_const, Nat.reduceEqDiff, Nat.reduceAdd, Nat.reduceSub, Nat.reduceMul, Nat.reduceLT, Nat.reduceLeDiff, Nat.reduceBEq, Nat.reduceDiv, Nat.reduceMod, Int.reduceToNat, Int.reduceNeg, Int.reduceAdd, Int.reduceSub, Int.reduceMul, Int.reduceEq, Int.reduceNe, Int.reduceLT, Int.reduceLE, Int.reduceGT, Int.reduceGE, h3, h4, h7, h8, h9, hw, hw2]
          exact hbad _ (by rw [mstep, if_pos (.inr (.inl hw2))])
      · simp -implicitDefEqProofs (maxSteps := 1000000) (disch := omega) only [↓xsP, ↓vc_seq, xsQ, xsT, xsR, xsD, ↓reduceIte, reduceCtorEq, eq_self, ne_eq, imp_self, forall_const, Nat.reduceEqDiff, Nat.reduceAdd, Nat.reduceSub, Nat.reduceMul, Nat.reduceLT, Nat.reduceLeDiff, Nat.reduceBEq, Nat.reduceDiv, Nat.reduceMod, Int.reduceToNat, Int.reduceNeg, Int.reduceAdd, Int.reduceSub, Int.reduceMul, Int.reduceEq, Int.reduceNe, Int.reduceLT, Int.reduceLE, Int.reduceGT, Int.reduceGE, h3, h4, h7, h8, h9, hw]
        exact hbad _ (by rw [mstep, if_pos (.inl hw)])
    · simp -implicitDefEqProofs (maxSteps := 1000000) (disch := omega) only [↓xsP, ↓vc_seq, xsQ, xsT, xsR, xsD, ↓reduceIte, reduceCtorEq, eq_self, ne_eq, imp_self, forall_const, Nat.reduceEqDiff, Nat.reduceAdd, Nat.reduceSub, Nat.reduceMul, Nat.reduceLT, Nat.reduceLeDiff, Nat.reduceBEq, Nat.reduceDiv, Nat.reduceMod, Int.reduceToNat, Int.reduceNeg, Int.reduceAdd, Int.reduceSub, Int.reduceMul, Int.reduceEq, Int.reduceNe, Int.reduceLT, Int.reduceLE, Int.reduceGT, Int.reduceGE, h3, h4, h7, h8, h9]
      have hil : i = h.length := by omega
      refine fin_ok (by rw [hM']; exact le_new (le_new (Mem.le_refl _) hidb) hido) ⟨?_, rfl⟩
      rw [hil, List.drop_length, mrun] at hrun
      rw [mayP, hrun]
      rfl
end Go.X

/- What past.read does. -/




set_option linter.unusedVariables false
set_option linter.unusedSimpArgs false
set_option maxHeartbeats 20000000
set_option maxRecDepth 100000
namespace Go.X
open Go.Proofs.Try (prog)

theorem ii48 : IIMap Go.Proofs.Try.prog 104 := ⟨_, _, _, _, _, ti_104, rfl, ti_3, rfl, ti_3, rfl⟩

theorem read_spec (h : List Evt) (hs : Small h) (M : Mem) : XCalls Go.Proofs.Try.prog 53 [.l (.sl (h.map Evt.row))] M fun r M' => r = readV h ∧ M' = M := by
  refine xcalls_intro (rs := [.tmp 2, .tmp 3]) Go.Proofs.Try.func53 rfl (by kernel_rfl) rfl rfl (by kernel_rfl) (by simp) ?_
  simp -implicitDefEqProofs (maxSteps := 1000000) (disch := omega) only [↓xsP, ↓vc_seq, xsQ, xsT, xsR, xsD, ↓reduceIte, reduceCtorEq, eq_self, ne_eq, imp_self, forall_const, Nat.reduceEqDiff, Nat.reduceAdd, Nat.reduceSub, Nat.reduceMul, Nat.reduceLT, Nat.reduceLeDiff, Nat.reduceBEq, Nat.reduceDiv, Nat.reduceMod, Int.reduceToNat, Int.reduceNeg, Int.reduceAdd, Int.reduceSub, Int.reduceMul, Int.reduceEq, Int.reduceNe, Int.reduceLT, Int.reduceLE, Int.reduceGT, Int.reduceGE]
  refine newI_intro fun idm hidm => ?_
  simp -implicitDefEqProofs (maxSteps := 1000000) (disch := omega) only [↓xsP, ↓vc_seq, xsQ, xsT, xsR, xsD, ↓reduceIte, reduceCtorEq, eq_self, ne_eq, imp_self, forall_const, Nat.reduceEqDiff, Nat.reduceAdd, Nat.reduceSub, Nat.reduceMul, Nat.reduceLT, Nat.reduceLeDiff, Nat.reduceBEq, Nat.reduceDiv, Nat.reduceMod, Int.reduceToNat, Int.reduceNeg, Int.reduceAdd, Int.reduceSub, Int.reduceMul, Int.reduceEq, Int.reduceNe, Int.reduceLT, Int.reduceLE, Int.reduceGT, Int.reduceGE]
  refine xloopG (by kernel_rfl) (fun k fr M' => ∃ (i : Nat) (out : List Cl) (ms : List (Int × Int)), i ≤ h.length ∧ k = h.length - i ∧ fr 5 = .l (.mp idm) ∧ fr 10 = .l (.sl (h.map Evt.row)) ∧ fr 11 = .l (.int .i64 h.length) ∧ fr 12 = .l (.int .i64 i) ∧
    rrun h 0 ([], []) = rrun (h.drop i) i (out, ms) ∧ INod ms ∧ out.length ≤ i ∧ (∀ k v, iget ms k = some v → 1 ≤ v ∧ v ≤ out.length) ∧
    ((out = [] ∧ fr 4 = .l .nils ∧ M' = M.set idm (.map (ms.map ient))) ∨ ∃ idO, idm < idO ∧ fr 4 = .l (.ms idO 0 out.length) ∧ M' = (M.set idm (.map (ms.map ient))).set idO (.cells 61 (out.map Cl.row) 0))) h.length ?_ ?_
  · refine ⟨0, [], [], Nat.zero_le _, rfl, by simp -implicitDefEqProofs (maxSteps := 1000000) (disch := omega) only [↓xsP, ↓vc_seq, xsQ, xsT, xsR, xsD, ↓reduceIte, reduceCtorEq, eq_self, ne_eq, imp_self, forall_const, Nat.reduceEqDiff, Nat.reduceAdd, Nat.reduceSub, Nat.reduceMul, Nat.reduceLT, Nat.reduceLeDiff, Nat.reduceBEq, Nat.reduceDiv, Nat.reduceMod, Int.reduceToNat, Int.reduceNeg, Int.reduceAdd, Int.reduceSub, Int.reduceMul, Int.reduceEq, Int.reduceNe, Int.reduceLT, Int.reduceLE, Int.reduceGT, Int.reduceGE], by simp -implicitDefEqProofs (maxSteps := 1000000) (disch := omega) only [↓xsP, ↓vc_seq, xsQ, xsT, xsR, xsD, ↓reduceIte, reduceCtorEq, eq_self, ne_eq, imp_self, forall_const, Nat.reduceEqDiff, Nat.reduceAdd, Nat.reduceSub, Nat.reduceMul, Nat.reduceLT, Nat.reduceLeDiff, Nat.reduceBEq, Nat.reduceDiv, Nat.reduceMod, Int.reduceToNat, Int.reduceNeg, Int.reduceAdd, Int.reduceSub, Int.reduceMul, Int.reduceEq, Int.reduceNe, Int.reduceLT, Int.reduceLE, Int.reduceGT, Int.reduceGE], by simp -implicitDefEqProofs (maxSteps := 1000000) (disch := omega) only [↓xsP, ↓vc_seq, xsQ, xsT, xsR, xsD, ↓reduceIte, reduceCtorEq, eq_self, ne_eq, imp_self, forall_const, Nat.reduceEqDiff, Nat.reduceAdd, Nat.reduceSub, Nat.reduceMul, Nat.reduceLT, Nat.reduceLeDiff, Nat.reduceBEq, Nat.reduceDiv, Nat.reduceMod, Int.reduceToNat, Int.reduceNeg, Int.reduceAdd, Int.reduceSub, Int.reduceMul, Int.reduceEq, Int.reduceNe, Int.reduceLT, Int.reduceLE, Int.reduceGT, Int.reduceGE], by simp -implicitDefEqProofs (maxSteps := 1000000) (disch := omega) only [↓xsP, ↓vc_seq, xsQ, xsT, xsR, xsD, ↓reduceIte, reduceCtorEq, eq_self, ne_eq, imp_self, forall_const, Nat.reduceEqDiff, Nat.reduceAdd, Nat.reduceSub, Nat.reduceMul, Nat.reduceLT, Nat.reduceLeDiff, Nat.reduceBEq, Nat.reduceDiv, Nat.reduceMod, Int.reduceToNat, Int.reduceNeg, Int.reduceAdd, Int.reduceSub, Int.reduceMul, Int.reduceEq, Int.reduceNe, Int.reduceLT, Int.reduceLE, Int.reduceGT, Int.reduceGE, Int.cast_ofNat_Int], rfl, by simp [INod], Nat.le_refl _, fun k v h => by simp [iget] at h, .inl ⟨rfl, by simp -implicitDefEqProofs (maxSteps := 1000000) (disch := omega) only [↓xsP, ↓vc_seq, xsQ, xsT, xsR, xsD, ↓reduceIte, reduceCtorEq, eq_self, ne_eq, imp_self, forall_const, Nat.reduceEqDiff, Nat.reduceAdd, Nat.reduceSub, Nat.reduceMul, Nat.reduceLT, Nat.reduceLeDiff, Nat.reduceBEq, Nat.reduceDiv, Nat.reduceMod, Int.reduceToNat, Int.reduceNeg, Int.reduceAdd, Int.reduceSub, Int.reduceMul, Int.reduceEq, Int.reduceNe, Int.reduceLT, Int.reduceLE, Int.reduceGT, Int.reduceGE], ?_⟩⟩
    rfl
  · rintro k fr M' ⟨i, out, ms, hi, rfl, h5, h10, h11, h12, hrun, hnod, hlen, hget, hmem⟩
    simp -implicitDefEqProofs (maxSteps := 1000000) (disch := omega) only [↓xsP, ↓vc_seq, xsQ, xsT, xsR, xsD, ↓reduceIte, reduceCtorEq, eq_self, ne_eq, imp_self, forall_const, Nat.reduceEqDiff, Nat.reduceAdd, Nat.reduceSub, Nat.reduceMul, Nat.reduceLT, Nat.reduceLeDiff, Nat.reduceBEq, Nat.reduceDiv, Nat.reduceMod, Int.reduceToNat, Int.reduceNeg, Int.reduceAdd, Int.reduceSub, Int.reduceMul, Int.reduceEq, Int.reduceNe, Int.reduceLT, Int.reduceLE, Int.reduceGT, Int.reduceGE, h10, h11, h12]
    refine condI_prop (fun hlt => ?_) (fun hlt => ?_)
    · simp -implicitDefEqProofs (maxSteps := 1000000) (disch := omega) only [↓xsP, ↓vc_seq, xsQ, xsT, xsR, xsD, ↓reduceIte, reduceCtorEq, eq_self, ne_eq, imp_self, forall_const, Nat.reduceEqDiff, Nat.reduceAdd, Nat.reduceSub, Nat.reduceMul, Nat.reduceLT, Nat.reduceLeDiff, Nat.reduceBEq, Nat.reduceDiv, Nat.reduceMod, Int.reduceToNat, Int.reduceNeg, Int.reduceAdd, Int.reduceSub, Int.reduceMul, Int.reduceEq, Int.reduceNe, Int.reduceLT, Int.reduceLE, Int.reduceGT, Int.reduceGE, h10, h11, h12]
      refine newI_intro fun id7 hid7 => ?_
      simp -implicitDefEqProofs (maxSteps := 1000000) (disch := omega) only [↓xsP, ↓vc_seq, xsQ, xsT, xsR, xsD, ↓reduceIte, reduceCtorEq, eq_self, ne_eq, imp_self, forall_const, Nat.reduceEqDiff, Nat.reduceAdd, Nat.reduceSub, Nat.reduceMul, Nat.reduceLT, Nat.reduceLeDiff, Nat.reduceBEq, Nat.reduceDiv, Nat.reduceMod, Int.reduceToNat, Int.reduceNeg, Int.reduceAdd, Int.reduceSub, Int.reduceMul, Int.reduceEq, Int.reduceNe, Int.reduceLT, Int.reduceLE, Int.reduceGT, Int.reduceGE, h10, h11, h12]
      have hxm : h.getD i default ∈ h := by
        have : i < h.length := by omega
        simp [List.getD_eq_getElem?_getD, List.getElem?_eq_getElem this]
      have hdrop : h.drop i = h.getD i default :: h.drop (i + 1) := by
        have hi' : i < h.length := by omega
        rw [List.drop_eq_getElem_cons hi', List.getD_eq_getElem?_getD, List.getElem?_eq_getElem hi', Option.getD_some]
      rw [hdrop] at hrun
      have hsm := hs.2 _ hxm
      generalize h.getD i default = x at hxm hrun hsm ⊢
      have hm7 : M' id7 = none := hid7 id7 (Nat.le_refl _)
      have hMm : M' idm = some (.map (ms.map ient)) := by
        rcases hmem with ⟨_, _, rfl⟩ | ⟨idO, ho, _, rfl⟩
        · exact Mem.set_eq _ _ _
        · rw [Mem.set_ne _ _ _ _ (by omega), Mem.set_eq]
      have hne : idm ≠ id7 := fun e => by subst e; rw [hm7] at hMm; cases hMm
      have hmlt : idm < id7 := lt_of_bnd hid7 hMm
      have hMle : M.le M' := by
        rcases hmem with ⟨_, _, rfl⟩ | ⟨idO, ho, _, rfl⟩
        · exact le_new (Mem.le_refl _) hidm
        · exact le_new (le_new (Mem.le_refl _) hidm) (fun j hj => hidm j (by omega))
      have hMle7 : ∀ b, M.le (M'.set id7 b) := fun b => Mem.le_set hMle (by
        cases hq : M id7 with
        | none => rfl
        | some b' => rw [hMle _ _ hq] at hm7; cases hm7)
      have hbad : ∀ b, rstep i x (out, ms) = none → @finI prog (.tup [.l .nils, .l (.bool false)]) (M'.set id7 b) ⟨fun r M' => r = readV h ∧ M' = M⟩ := fun b hb => by
        refine finI_of (XFin.wk (XFin.le (hMle7 b) ⟨?_, rfl⟩))
        simp only [readV, readP, hrun, rrun, hb, Option.bind_none, Option.map_none, wkT, List.map_cons, List.map_nil, wkA, wkL]
      have hM7m : ∀ b, (M'.set id7 b) idm = some (.map (ms.map ient)) := fun b => by rw [Mem.set_ne _ _ _ _ (Ne.symm hne)]; exact hMm
      refine gI_prop_f (fun hw => ?_) (fun hw => ?_)
      · simp -implicitDefEqProofs (maxSteps := 1000000) (disch := omega) only [↓xsP, ↓vc_seq, xsQ, xsT, xsR, xsD, ↓reduceIte, reduceCtorEq, eq_self, ne_eq, imp_self, forall_const, Nat.reduceEqDiff, Nat.reduceAdd, Nat.reduceSub, Nat.reduceMul, Nat.reduceLT, Nat.reduceLeDiff, Nat.reduceBEq, Nat.reduceDiv, Nat.reduceMod, Int.reduceToNat, Int.reduceNeg, Int.reduceAdd, Int.reduceSub, Int.reduceMul, Int.reduceEq, Int.reduceNe, Int.reduceLT, Int.reduceLE, Int.reduceGT, Int.reduceGE, h10, h11, h12, hw]
        refine condI_prop (fun hw2 => ?_) (fun hw2 => ?_)
        · simp -implicitDefEqProofs (maxSteps := 1000000) (disch := omega) only [↓xsP, ↓vc_seq, xsQ, xsT, xsR, xsD, ↓reduceIte, reduceCtorEq, eq_self, ne_eq, imp_self, forall_const, Nat.reduceEqDiff, Nat.reduceAdd, Nat.reduceSub, Nat.reduceMul, Nat.reduceLT, Nat.reduceLeDiff, Nat.reduceBEq, Nat.reduceDiv, Nat.reduceMod, Int.reduceToNat, Int.reduceNeg, Int.reduceAdd, Int.reduceSub, Int.reduceMul, Int.reduceEq, Int.reduceNe, Int.reduceLT, Int.reduceLE, Int.reduceGT, Int.reduceGE, h10, h11, h12]
          exact hbad _ (by rw [rstep, if_pos (.inr hw2)])
        · simp -implicitDefEqProofs (maxSteps := 1000000) (disch := omega) only [↓xsP, ↓vc_seq, xsQ, xsT, xsR, xsD, ↓reduceIte, reduceCtorEq, eq_self, ne_eq, imp_self, forall_const, Nat.reduceEqDiff, Nat.reduceAdd, Nat.reduceSub, Nat.reduceMul, Nat.reduceLT, Nat.reduceLeDiff, Nat.reduceBEq, Nat.reduceDiv, Nat.reduceMod, Int.reduceToNat, Int.reduceNeg, Int.reduceAdd, Int.reduceSub, Int.reduceMul, Int.reduceEq, Int.reduceNe, Int.reduceLT, Int.reduceLE, Int.reduceGT, Int.reduceGE, h10, h11, h12, h5]
          refine optI_intro _ (lookup_ii ii48 (hM7m _) _).1 ?_
          have hgv : ∀ v, (iget ms x.who).getD 0 = v → 0 ≤ v ∧ v ≤ out.length ∧ (1 ≤ v → iget ms x.who = some v) := fun v hv => by
            cases hg : iget ms x.who with
            | none => rw [hg] at hv; simp at hv; omega
            | some u => rw [hg] at hv; simp at hv; have := hget _ _ hg; subst hv; exact ⟨by omega, by omega, fun _ => rfl⟩
          have hstep : rstep i x (out, ms) = if x.ret = false then
              (if 1 ≤ (iget ms x.who).getD 0 ∨ mayOpB x.op = false ∨ x.ans ≠ ans0 then none
              else some (out ++ [⟨x.who, i, -1, x.op, ans0⟩], iput ms x.who (out.length + 1)))
            else if (iget ms x.who).getD 0 < 1 ∨ (out.getD ((iget ms x.who).getD 0 - 1).toNat default).op ≠ x.op then none
              else some (out.set ((iget ms x.who).getD 0 - 1).toNat { out.getD ((iget ms x.who).getD 0 - 1).toNat default with fin := i, ans := x.ans }, idel ms x.who) := by
            rw [rstep, if_neg (by omega)]
          generalize hv : (iget ms x.who).getD 0 = v at hstep ⊢
          obtain ⟨hv0, hv1, hv2⟩ := hgv v hv
          have hs1 := hs.1
          simp -implicitDefEqProofs (maxSteps := 1000000) (disch := omega) only [↓xsP, ↓vc_seq, xsQ, xsT, xsR, xsD, ↓reduceIte, reduceCtorEq, eq_self, ne_eq, imp_self, forall_const, Nat.reduceEqDiff, Nat.reduceAdd, Nat.reduceSub, Nat.reduceMul, Nat.reduceLT, Nat.reduceLeDiff, Nat.reduceBEq, Nat.reduceDiv, Nat.reduceMod, Int.reduceToNat, Int.reduceNeg, Int.reduceAdd, Int.reduceSub, Int.reduceMul, Int.reduceEq, Int.reduceNe, Int.reduceLT, Int.reduceLE, Int.reduceGT, Int.reduceGE, h10, h11, h12, h5]
          cases hret : x.ret with
          | false =>
            rw [hret] at hstep
            simp only [if_true] at hstep
            simp -implicitDefEqProofs (maxSteps := 1000000) (disch := omega) only [↓xsP, ↓vc_seq, xsQ, xsT, xsR, xsD, ↓reduceIte, reduceCtorEq, eq_self, ne_eq, imp_self, forall_const, Nat.reduceEqDiff, Nat.reduceAdd, Nat.reduceSub, Nat.reduceMul, Nat.reduceLT, Nat.reduceLeDiff, Nat.reduceBEq, Nat.reduceDiv, Nat.reduceMod, Int.reduceToNat, Int.reduceNeg, Int.reduceAdd, Int.reduceSub, Int.reduceMul, Int.reduceEq, Int.reduceNe, Int.reduceLT, Int.reduceLE, Int.reduceGT, Int.reduceGE, h10, h11, h12, h5]
            refine gI_prop_f (fun hg1 => ?_) (fun hg1 => ?_)
            · simp -implicitDefEqProofs (maxSteps := 1000000) (disch := omega) only [↓xsP, ↓vc_seq, xsQ, xsT, xsR, xsD, ↓reduceIte, reduceCtorEq, eq_self, ne_eq, imp_self, forall_const, Nat.reduceEqDiff, Nat.reduceAdd, Nat.reduceSub, Nat.reduceMul, Nat.reduceLT, Nat.reduceLeDiff, Nat.reduceBEq, Nat.reduceDiv, Nat.reduceMod, Int.reduceToNat, Int.reduceNeg, Int.reduceAdd, Int.reduceSub, Int.reduceMul, Int.reduceEq, Int.reduceNe, Int.reduceLT, Int.reduceLE, Int.reduceGT, Int.reduceGE, h10, h11, h12, h5, hg1]
              refine callI_of ((mayOp_spec x.op _).mono ?_)
              rintro _ _ ⟨rfl, rfl⟩
              simp -implicitDefEqProofs (maxSteps := 1000000) (disch := omega) only [↓xsP, ↓vc_seq, xsQ, xsT, xsR, xsD, ↓reduceIte, reduceCtorEq, eq_self, ne_eq, imp_self, forall_const, Nat.reduceEqDiff, Nat.reduceAdd, Nat.reduceSub, Nat.reduceMul, Nat.reduceLT, Nat.reduceLeDiff, Nat.reduceBEq, Nat.reduceDiv, Nat.reduceMod, Int.reduceToNat, Int.reduceNeg, Int.reduceAdd, Int.reduceSub, Int.reduceMul, Int.reduceEq, Int.reduceNe, Int.reduceLT, Int.reduceLE, Int.reduceGT, Int.reduceGE, h10, h11, h12, h5, hg1]
              refine gI_f (fun hg2 => ?_) (fun hg2 => ?_)
              · simp -implicitDefEqProofs (maxSteps := 1000000) (disch := omega) only [↓xsP, ↓vc_seq, xsQ, xsT, xsR, xsD, ↓reduceIte, reduceCtorEq, eq_self, ne_eq, imp_self, forall_const, Nat.reduceEqDiff, Nat.reduceAdd, Nat.reduceSub, Nat.reduceMul, Nat.reduceLT, Nat.reduceLeDiff, Nat.reduceBEq, Nat.reduceDiv, Nat.reduceMod, Int.reduceToNat, Int.reduceNeg, Int.reduceAdd, Int.reduceSub, Int.reduceMul, Int.reduceEq, Int.reduceNe, Int.reduceLT, Int.reduceLE, Int.reduceGT, Int.reduceGE, h10, h11, h12, h5, hg2]
                refine callI_of (XCalls.wk ((sameAns_spec x.ans ans0 (by omega) _).mono ?_))
                rintro _ _ ⟨rfl, rfl⟩
                simp -implicitDefEqProofs (maxSteps := 1000000) (disch := omega) only [↓xsP, ↓vc_seq, xsQ, xsT, xsR, xsD, ↓reduceIte, reduceCtorEq, eq_self, ne_eq, imp_self, forall_const, Nat.reduceEqDiff, Nat.reduceAdd, Nat.reduceSub, Nat.reduceMul, Nat.reduceLT, Nat.reduceLeDiff, Nat.reduceBEq, Nat.reduceDiv, Nat.reduceMod, Int.reduceToNat, Int.reduceNeg, Int.reduceAdd, Int.reduceSub, Int.reduceMul, Int.reduceEq, Int.reduceNe, Int.reduceLT, Int.reduceLE, Int.reduceGT, Int.reduceGE, h10, h11, h12, h5, hg1, hg2]
                refine condI_intro (fun hg3 => ?_) (fun hg3 => ?_)
                · simp -implicitDefEqProofs (maxSteps := 1000000) (disch := omega) only [↓xsP, ↓vc_seq, xsQ, xsT, xsR, xsD, ↓reduceIte, reduceCtorEq, eq_self, ne_eq, imp_self, forall_const, Nat.reduceEqDiff, Nat.reduceAdd, Nat.reduceSub, Nat.reduceMul, Nat.reduceLT, Nat.reduceLeDiff, Nat.reduceBEq, Nat.reduceDiv, Nat.reduceMod, Int.reduceToNat, Int.reduceNeg, Int.reduceAdd, Int.reduceSub, Int.reduceMul, Int.reduceEq, Int.reduceNe, Int.reduceLT, Int.reduceLE, Int.reduceGT, Int.reduceGE, h10, h11, h12, h5]
                  have hne3 : x.ans ≠ ans0 := bof_not.1 (by simpa using hg3)
                  exact hbad _ (by rw [hstep, if_pos (.inr (.inr hne3))])
                · have heq3 : x.ans = ans0 := bof_iff.1 (by simpa using hg3)
                  have hmo : mayOpB x.op = true := by simpa using hg2
                  rw [if_neg (by simp [heq3, hmo]; omega)] at hstep
                  simp -implicitDefEqProofs (maxSteps := 1000000) (disch := omega) only [↓xsP, ↓vc_seq, xsQ, xsT, xsR, xsD, ↓reduceIte, reduceCtorEq, eq_self, ne_eq, imp_self, forall_const, Nat.reduceEqDiff, Nat.reduceAdd, Nat.reduceSub, Nat.reduceMul, Nat.reduceLT, Nat.reduceLeDiff, Nat.reduceBEq, Nat.reduceDiv, Nat.reduceMod, Int.reduceToNat, Int.reduceNeg, Int.reduceAdd, Int.reduceSub, Int.reduceMul, Int.reduceEq, Int.reduceNe, Int.reduceLT, Int.reduceLE, Int.reduceGT, Int.reduceGE, h10, h11, h12, h5]
                  refine xquiet (by kernel_rfl) (by kernel_rfl) (by kernel_rfl) ?_
                  have hlast : ∀ (i' : Nat), i' = i + 1 → rrun h 0 ([], []) = rrun (h.drop i') i' (out ++ [⟨x.who, i, -1, x.op, ans0⟩], iput ms x.who (out.length + 1)) := fun i' hi' => by
                    rw [hrun, rrun, hstep, Option.bind_some, hi']
                  rcases hmem with ⟨ho, h4, hM'⟩ | ⟨idO, ho, h4, hM'⟩
                  · simp -implicitDefEqProofs (maxSteps := 1000000) (disch := omega) only [↓xsP, ↓vc_seq, xsQ, xsT, xsR, xsD, ↓reduceIte, reduceCtorEq, eq_self, ne_eq, imp_self, forall_const, Nat.reduceEqDiff, Nat.reduceAdd, Nat.reduceSub, Nat.reduceMul, Nat.reduceLT, Nat.reduceLeDiff, Nat.reduceBEq, Nat.reduceDiv, Nat.reduceMod, Int.reduceToNat, Int.reduceNeg, Int.reduceAdd, Int.reduceSub, Int.reduceMul, Int.reduceEq, Int.reduceNe, Int.reduceLT, Int.reduceLE, Int.reduceGT, Int.reduceGE, h10, h11, h12, h5, h4]
                    refine newI_intro fun idn hidn => ?_
                    obtain ⟨h7n, hidn⟩ := bnd_new hidn
                    simp -implicitDefEqProofs (maxSteps := 1000000) (disch := omega) only [↓xsP, ↓vc_seq, xsQ, xsT, xsR, xsD, ↓reduceIte, reduceCtorEq, eq_self, ne_eq, imp_self, forall_const, Nat.reduceEqDiff, Nat.reduceAdd, Nat.reduceSub, Nat.reduceMul, Nat.reduceLT, Nat.reduceLeDiff, Nat.reduceBEq, Nat.reduceDiv, Nat.reduceMod, Int.reduceToNat, Int.reduceNeg, Int.reduceAdd, Int.reduceSub, Int.reduceMul, Int.reduceEq, Int.reduceNe, Int.reduceLT, Int.reduceLE, Int.reduceGT, Int.reduceGE, h10, h11, h12, h5, h4]
                    refine app_nils _ _ _ _ 61 _ _ ti_58 rfl ti_61 (by kernel_rfl) (by decide) _ [openRow x i] ?_ ?_ ?_ ?_ ?_
                    · simp -implicitDefEqProofs (maxSteps := 1000000) (disch := omega) only [↓xsP, ↓vc_seq, xsQ, xsT, xsR, xsD, ↓reduceIte, reduceCtorEq, eq_self, ne_eq, imp_self, forall_const, Nat.reduceEqDiff, Nat.reduceAdd, Nat.reduceSub, Nat.reduceMul, Nat.reduceLT, Nat.reduceLeDiff, Nat.reduceBEq, Nat.reduceDiv, Nat.reduceMod, Int.reduceToNat, Int.reduceNeg, Int.reduceAdd, Int.reduceSub, Int.reduceMul, Int.reduceEq, Int.reduceNe, Int.reduceLT, Int.reduceLE, Int.reduceGT, Int.reduceGE, openRow]
                    · simp
                    · simp
                    · simp
                    · intro _ idA hidA
                      obtain ⟨hnA, hidA⟩ := bnd_new hidA
                      simp -implicitDefEqProofs (maxSteps := 1000000) (disch := omega) only [↓xsP, ↓vc_seq, xsQ, xsT, xsR, xsD, ↓reduceIte, reduceCtorEq, eq_self, ne_eq, imp_self, forall_const, Nat.reduceEqDiff, Nat.reduceAdd, Nat.reduceSub, Nat.reduceMul, Nat.reduceLT, Nat.reduceLeDiff, Nat.reduceBEq, Nat.reduceDiv, Nat.reduceMod, Int.reduceToNat, Int.reduceNeg, Int.reduceAdd, Int.reduceSub, Int.reduceMul, Int.reduceEq, Int.reduceNe, Int.reduceLT, Int.reduceLE, Int.reduceGT, Int.reduceGE, h10, h11, h12, h5, h4]
                      refine optI_intro _ (mapUpd_ii (ms := ms) ii48 ?_ _ _) ?_
                      · rw [Mem.set_ne _ _ _ _ (by omega), Mem.set_ne _ _ _ _ (by omega), Mem.set_ne _ _ _ _ (by omega)]
                        exact hMm
                      · simp -implicitDefEqProofs (maxSteps := 1000000) (disch := omega) only [↓xsP, ↓vc_seq, xsQ, xsT, xsR, xsD, ↓reduceIte, reduceCtorEq, eq_self, ne_eq, imp_self, forall_const, Nat.reduceEqDiff, Nat.reduceAdd, Nat.reduceSub, Nat.reduceMul, Nat.reduceLT, Nat.reduceLeDiff, Nat.reduceBEq, Nat.reduceDiv, Nat.reduceMod, Int.reduceToNat, Int.reduceNeg, Int.reduceAdd, Int.reduceSub, Int.reduceMul, Int.reduceEq, Int.reduceNe, Int.reduceLT, Int.reduceLE, Int.reduceGT, Int.reduceGE, h10, h11, h12, h5, h4]
                        subst ho
                        have e1 : ((([] : List Cl).length : Int) + 1) = ((1 : Nat) : Int) := by simp
                        rw [e1] at hlast
                        refine ⟨h.length - (i + 1), (M.set idm (.map ((iput ms x.who ((1 : Nat) : Int)).map ient))).set idA (.cells 61 (([] ++ [⟨x.who, i, -1, x.op, ans0⟩] : List Cl).map Cl.row) 0), by omega, ?_, i + 1, [] ++ [⟨x.who, i, -1, x.op, ans0⟩], iput ms x.who ((1 : Nat) : Int), by omega, rfl, by simp, hlast _ rfl, iput_nod hnod _ _, by simp, fun k v hk => ?_, .inr ⟨idA, by omega, by simp, rfl⟩⟩
                        · refine step_end hidm (by omega) ?_ (Mem.set_eq _ _ _) (fun j b hj hb => ?_) (rows := [openRow x i]) (by simp [open_wk])
                          · rw [Mem.set_ne _ _ _ _ (by omega)]
                            exact Mem.set_eq _ _ _
                          · rw [Mem.set_ne _ _ _ _ (by omega), Mem.set_ne _ _ _ _ (by omega), Mem.set_ne _ _ _ _ (by omega), Mem.set_ne _ _ _ _ (by omega), hM', Mem.set_ne _ _ _ _ (by omega)]
                            exact hb
                        · rw [iget_put] at hk
                          split at hk
                          · simp only [Option.some.injEq] at hk
                            subst hk
                            simp
                          · have := hget k v hk
                            simp at this ⊢
                            omega
                  · have hMO : M' idO = some (.cells 61 (out.map Cl.row) 0) := by rw [hM']; exact Mem.set_eq _ _ _
                    have h7O : idO < id7 := lt_of_bnd hid7 hMO
                    simp -implicitDefEqProofs (maxSteps := 1000000) (disch := omega) only [↓xsP, ↓vc_seq, xsQ, xsT, xsR, xsD, ↓reduceIte, reduceCtorEq, eq_self, ne_eq, imp_self, forall_const, Nat.reduceEqDiff, Nat.reduceAdd, Nat.reduceSub, Nat.reduceMul, Nat.reduceLT, Nat.reduceLeDiff, Nat.reduceBEq, Nat.reduceDiv, Nat.reduceMod, Int.reduceToNat, Int.reduceNeg, Int.reduceAdd, Int.reduceSub, Int.reduceMul, Int.reduceEq, Int.reduceNe, Int.reduceLT, Int.reduceLE, Int.reduceGT, Int.reduceGE, h10, h11, h12, h5, h4]
                    refine newI_intro fun idn hidn => ?_
                    obtain ⟨h7n, hidn⟩ := bnd_new hidn
                    simp -implicitDefEqProofs (maxSteps := 1000000) (disch := omega) only [↓xsP, ↓vc_seq, xsQ, xsT, xsR, xsD, ↓reduceIte, reduceCtorEq, eq_self, ne_eq, imp_self, forall_const, Nat.reduceEqDiff, Nat.reduceAdd, Nat.reduceSub, Nat.reduceMul, Nat.reduceLT, Nat.reduceLeDiff, Nat.reduceBEq, Nat.reduceDiv, Nat.reduceMod, Int.reduceToNat, Int.reduceNeg, Int.reduceAdd, Int.reduceSub, Int.reduceMul, Int.reduceEq, Int.reduceNe, Int.reduceLT, Int.reduceLE, Int.reduceGT, Int.reduceGE, h10, h11, h12, h5, h4]
                    refine app_ms _ _ _ _ 61 _ _ ti_58 rfl ti_61 (by kernel_rfl) (by decide) idO out.length _ (rows := out.map Cl.row) (keep := 0) [openRow x i] ?_ ?_ ?_ (Nat.zero_le _) ?_ ?_ ?_
                    · rw [Mem.set_ne _ _ _ _ (by omega), Mem.set_ne _ _ _ _ (by omega)]
                      exact hMO
                    · simp -implicitDefEqProofs (maxSteps := 1000000) (disch := omega) only [↓xsP, ↓vc_seq, xsQ, xsT, xsR, xsD, ↓reduceIte, reduceCtorEq, eq_self, ne_eq, imp_self, forall_const, Nat.reduceEqDiff, Nat.reduceAdd, Nat.reduceSub, Nat.reduceMul, Nat.reduceLT, Nat.reduceLeDiff, Nat.reduceBEq, Nat.reduceDiv, Nat.reduceMod, Int.reduceToNat, Int.reduceNeg, Int.reduceAdd, Int.reduceSub, Int.reduceMul, Int.reduceEq, Int.reduceNe, Int.reduceLT, Int.reduceLE, Int.reduceGT, Int.reduceGE, openRow]
                    · simp
                    · exact Nat.le_trans (Nat.mul_le_mul_right _ (show out.length + [openRow x i].length ≤ 1000001 by simp; omega)) (by decide)
                    · simp
                      omega
                    · intro idA hidA
                      obtain ⟨hnA, hidA⟩ := bnd_new hidA
                      simp -implicitDefEqProofs (maxSteps := 1000000) (disch := omega) only [↓xsP, ↓vc_seq, xsQ, xsT, xsR, xsD, ↓reduceIte, reduceCtorEq, eq_self, ne_eq, imp_self, forall_const, Nat.reduceEqDiff, Nat.reduceAdd, Nat.reduceSub, Nat.reduceMul, Nat.reduceLT, Nat.reduceLeDiff, Nat.reduceBEq, Nat.reduceDiv, Nat.reduceMod, Int.reduceToNat, Int.reduceNeg, Int.reduceAdd, Int.reduceSub, Int.reduceMul, Int.reduceEq, Int.reduceNe, Int.reduceLT, Int.reduceLE, Int.reduceGT, Int.reduceGE, h10, h11, h12, h5, h4]
                      refine optI_intro _ (mapUpd_ii (ms := ms) ii48 ?_ _ _) ?_
                      · rw [Mem.set_ne _ _ _ _ (by omega), Mem.del_ne _ _ _ (by omega), Mem.set_ne _ _ _ _ (by omega), Mem.set_ne _ _ _ _ (by omega)]
                        exact hMm
                      · simp -implicitDefEqProofs (maxSteps := 1000000) (disch := omega) only [↓xsP, ↓vc_seq, xsQ, xsT, xsR, xsD, ↓reduceIte, reduceCtorEq, eq_self, ne_eq, imp_self, forall_const, Nat.reduceEqDiff, Nat.reduceAdd, Nat.reduceSub, Nat.reduceMul, Nat.reduceLT, Nat.reduceLeDiff, Nat.reduceBEq, Nat.reduceDiv, Nat.reduceMod, Int.reduceToNat, Int.reduceNeg, Int.reduceAdd, Int.reduceSub, Int.reduceMul, Int.reduceEq, Int.reduceNe, Int.reduceLT, Int.reduceLE, Int.reduceGT, Int.reduceGE, h10, h11, h12, h5, h4]
                        have e1 : ((out.length : Int) + 1) = ((out.length + 1 : Nat) : Int) := by omega
                        rw [e1] at hlast
                        refine ⟨h.length - (i + 1), (M.set idm (.map ((iput ms x.who ((out.length + 1 : Nat) : Int)).map ient))).set idA (.cells 61 ((out ++ [⟨x.who, i, -1, x.op, ans0⟩] : List Cl).map Cl.row) 0), by omega, ?_, i + 1, out ++ [⟨x.who, i, -1, x.op, ans0⟩], iput ms x.who ((out.length + 1 : Nat) : Int), by omega, rfl, by simp, hlast _ rfl, iput_nod hnod _ _, by simp; omega, fun k v hk => ?_, .inr ⟨idA, by omega, by simp, rfl⟩⟩
                        · refine step_end hidm (by omega) ?_ (Mem.set_eq _ _ _) (fun j b hj hb => ?_) (rows := (out.map Cl.row).take out.length ++ [openRow x i]) ?_
                          · rw [Mem.set_ne _ _ _ _ (by omega)]
                            exact Mem.set_eq _ _ _
                          · rw [Mem.set_ne _ _ _ _ (by omega), Mem.set_ne _ _ _ _ (by omega), Mem.del_ne _ _ _ (by omega), Mem.set_ne _ _ _ _ (by omega), Mem.set_ne _ _ _ _ (by omega), hM', Mem.set_ne _ _ _ _ (by omega), Mem.set_ne _ _ _ _ (by omega)]
                            exact hb
                          · rw [List.take_of_length_le (by simp), List.map_append, cls_wk, List.map_append]
                            simp [open_wk]
                        · rw [iget_put] at hk
                          split at hk
                          · simp only [Option.some.injEq] at hk
                            subst hk
                            simp
                            omega
                          · have := hget k v hk
                            simp at this ⊢
                            omega
              · simp -implicitDefEqProofs (maxSteps := 1000000) (disch := omega) only [↓xsP, ↓vc_seq, xsQ, xsT, xsR, xsD, ↓reduceIte, reduceCtorEq, eq_self, ne_eq, imp_self, forall_const, Nat.reduceEqDiff, Nat.reduceAdd, Nat.reduceSub, Nat.reduceMul, Nat.reduceLT, Nat.reduceLeDiff, Nat.reduceBEq, Nat.reduceDiv, Nat.reduceMod, Int.reduceToNat, Int.reduceNeg, Int.reduceAdd, Int.reduceSub, Int.reduceMul, Int.reduceEq, Int.reduceNe, Int.reduceLT, Int.reduceLE, Int.reduceGT, Int.reduceGE, h10, h11, h12, h5, hg2]
                exact hbad _ (by rw [hstep, if_pos (.inr (.inl (by simpa using hg2)))])
            · simp -implicitDefEqProofs (maxSteps := 1000000) (disch := omega) only [↓xsP, ↓vc_seq, xsQ, xsT, xsR, xsD, ↓reduceIte, reduceCtorEq, eq_self, ne_eq, imp_self, forall_const, Nat.reduceEqDiff, Nat.reduceAdd, Nat.reduceSub, Nat.reduceMul, Nat.reduceLT, Nat.reduceLeDiff, Nat.reduceBEq, Nat.reduceDiv, Nat.reduceMod, Int.reduceToNat, Int.reduceNeg, Int.reduceAdd, Int.reduceSub, Int.reduceMul, Int.reduceEq, Int.reduceNe, Int.reduceLT, Int.reduceLE, Int.reduceGT, Int.reduceGE, h10, h11, h12, h5, hg1]
              exact hbad _ (by rw [hstep, if_pos (.inl (by omega))])
          | true =>
            rw [hret] at hstep
            simp only [Bool.true_eq_false, if_false] at hstep
            simp -implicitDefEqProofs (maxSteps := 1000000) (disch := omega) only [↓xsP, ↓vc_seq, xsQ, xsT, xsR, xsD, ↓reduceIte, reduceCtorEq, eq_self, ne_eq, imp_self, forall_const, Nat.reduceEqDiff, Nat.reduceAdd, Nat.reduceSub, Nat.reduceMul, Nat.reduceLT, Nat.reduceLeDiff, Nat.reduceBEq, Nat.reduceDiv, Nat.reduceMod, Int.reduceToNat, Int.reduceNeg, Int.reduceAdd, Int.reduceSub, Int.reduceMul, Int.reduceEq, Int.reduceNe, Int.reduceLT, Int.reduceLE, Int.reduceGT, Int.reduceGE, h10, h11, h12, h5]
            refine xquiet (by kernel_rfl) (by kernel_rfl) (by kernel_rfl) ?_
            simp -implicitDefEqProofs (maxSteps := 1000000) (disch := omega) only [↓xsP, ↓vc_seq, xsQ, xsT, xsR, xsD, ↓reduceIte, reduceCtorEq, eq_self, ne_eq, imp_self, forall_const, Nat.reduceEqDiff, Nat.reduceAdd, Nat.reduceSub, Nat.reduceMul, Nat.reduceLT, Nat.reduceLeDiff, Nat.reduceBEq, Nat.reduceDiv, Nat.reduceMod, Int.reduceToNat, Int.reduceNeg, Int.reduceAdd, Int.reduceSub, Int.reduceMul, Int.reduceEq, Int.reduceNe, Int.reduceLT, Int.reduceLE, Int.reduceGT, Int.reduceGE, h10, h11, h12, h5]
            refine gI_prop_f (fun hg1 => ?_) (fun hg1 => ?_)
            · rcases hmem with ⟨rfl, h4, hM'⟩ | ⟨idO, ho, h4, hM'⟩
              · simp only [List.length_nil] at hv1
                omega
              · have hMO : M' idO = some (.cells 61 (out.map Cl.row) 0) := by rw [hM']; exact Mem.set_eq _ _ _
                have h7O : idO < id7 := lt_of_bnd hid7 hMO
                simp -implicitDefEqProofs (maxSteps := 1000000) (disch := omega) only [↓xsP, ↓vc_seq, xsQ, xsT, xsR, xsD, ↓reduceIte, reduceCtorEq, eq_self, ne_eq, imp_self, forall_const, Nat.reduceEqDiff, Nat.reduceAdd, Nat.reduceSub, Nat.reduceMul, Nat.reduceLT, Nat.reduceLeDiff, Nat.reduceBEq, Nat.reduceDiv, Nat.reduceMod, Int.reduceToNat, Int.reduceNeg, Int.reduceAdd, Int.reduceSub, Int.reduceMul, Int.reduceEq, Int.reduceNe, Int.reduceLT, Int.reduceLE, Int.reduceGT, Int.reduceGE, h10, h11, h12, h5, h4, hg1, hMO]
                refine condI_intro (fun hg2 => ?_) (fun hg2 => ?_)
                · simp -implicitDefEqProofs (maxSteps := 1000000) (disch := omega) only [↓xsP, ↓vc_seq, xsQ, xsT, xsR, xsD, ↓reduceIte, reduceCtorEq, eq_self, ne_eq, imp_self, forall_const, Nat.reduceEqDiff, Nat.reduceAdd, Nat.reduceSub, Nat.reduceMul, Nat.reduceLT, Nat.reduceLeDiff, Nat.reduceBEq, Nat.reduceDiv, Nat.reduceMod, Int.reduceToNat, Int.reduceNeg, Int.reduceAdd, Int.reduceSub, Int.reduceMul, Int.reduceEq, Int.reduceNe, Int.reduceLT, Int.reduceLE, Int.reduceGT, Int.reduceGE, h10, h11, h12, h5, h4]
                  refine hbad _ ?_
                  rw [hstep, if_pos (.inr fun e => by
                    obtain ⟨e1, e2, e3, e4⟩ := (opn_eq _ _).1 e
                    simp only [e1, e2, e3, e4, decide_true, Bool.and_self, Bool.not_true, Bool.false_eq_true] at hg2)]
                · have heq : (out.getD (v - 1).toNat default).op = x.op := by
                    simp only [Bool.not_eq_false', Bool.and_eq_true, decide_eq_true_eq] at hg2
                    exact (opn_eq _ _).2 hg2
                  rw [if_neg (by simp only [heq, ne_eq, not_true_eq_false, or_false]; omega)] at hstep
                  simp -implicitDefEqProofs (maxSteps := 1000000) (disch := omega) only [↓xsP, ↓vc_seq, xsQ, xsT, xsR, xsD, ↓reduceIte, reduceCtorEq, eq_self, ne_eq, imp_self, forall_const, Nat.reduceEqDiff, Nat.reduceAdd, Nat.reduceSub, Nat.reduceMul, Nat.reduceLT, Nat.reduceLeDiff, Nat.reduceBEq, Nat.reduceDiv, Nat.reduceMod, Int.reduceToNat, Int.reduceNeg, Int.reduceAdd, Int.reduceSub, Int.reduceMul, Int.reduceEq, Int.reduceNe, Int.reduceLT, Int.reduceLE, Int.reduceGT, Int.reduceGE, h10, h11, h12, h5, h4]
                  refine xwrite (fun n0 => [ (9, idO), (12, idO)]) [9, 12] [] [[], [], [9], [9], [], [9], [9], [], [], [], [], [], []] (by kernel_rfl) (by kernel_rfl) (by kernel_rfl) (by kernel_rfl) (fun n0 hn0 => ⟨rfl, ?_, ?_⟩)
                  · obtain ⟨h7n, hn0⟩ := bnd_new hn0
                    exact TOk_cons (.inl (by omega)) (TOk_cons (.inl (by omega)) (TOk_nil _ _))
                  · obtain ⟨h7n, hn0⟩ := bnd_new hn0
                    have hlast : ∀ (i' : Nat), i' = i + 1 → rrun h 0 ([], []) = rrun (h.drop i') i' (out.set (v - 1).toNat { out.getD (v - 1).toNat default with fin := i, ans := x.ans }, idel ms x.who) := fun i' hi' => by
                      rw [hrun, rrun, hstep, Option.bind_some, hi']
                    have hgd : ∀ k v', iget (idel ms x.who) k = some v' → 1 ≤ v' ∧ v' ≤ (out.set (v - 1).toNat { out.getD (v - 1).toNat default with fin := i, ans := x.ans }).length := fun k v' hk => by
                      rw [iget_del hnod] at hk
                      split at hk
                      · cases hk
                      · simpa using hget k v' hk
                    simp -implicitDefEqProofs (maxSteps := 1000000) (disch := omega) only [↓xsP, ↓vc_seq, xsQ, xsT, xsR, xsD, ↓reduceIte, reduceCtorEq, eq_self, ne_eq, imp_self, forall_const, Nat.reduceEqDiff, Nat.reduceAdd, Nat.reduceSub, Nat.reduceMul, Nat.reduceLT, Nat.reduceLeDiff, Nat.reduceBEq, Nat.reduceDiv, Nat.reduceMod, Int.reduceToNat, Int.reduceNeg, Int.reduceAdd, Int.reduceSub, Int.reduceMul, Int.reduceEq, Int.reduceNe, Int.reduceLT, Int.reduceLE, Int.reduceGT, Int.reduceGE, h10, h11, h12, h5, h4, hMO]
                    refine app_nils _ _ _ _ 26 _ _ ti_27 rfl ti_26 (by kernel_rfl) (by decide) _ (x.ans.pairs.map Pr.row) ?_ ?_ ?_ (fun he => ?_) (fun hne4 idP hidP => ?_)
                    · simp -implicitDefEqProofs (maxSteps := 1000000) (disch := omega) only [↓xsP, ↓vc_seq, xsQ, xsT, xsR, xsD, ↓reduceIte, reduceCtorEq, eq_self, ne_eq, imp_self, forall_const, Nat.reduceEqDiff, Nat.reduceAdd, Nat.reduceSub, Nat.reduceMul, Nat.reduceLT, Nat.reduceLeDiff, Nat.reduceBEq, Nat.reduceDiv, Nat.reduceMod, Int.reduceToNat, Int.reduceNeg, Int.reduceAdd, Int.reduceSub, Int.reduceMul, Int.reduceEq, Int.reduceNe, Int.reduceLT, Int.reduceLE, Int.reduceGT, Int.reduceGE]
                      rw [if_pos]
                      intro r hr
                      obtain ⟨p, _, rfl⟩ := List.mem_map.1 hr
                      rfl
                    · exact Nat.le_trans (Nat.mul_le_mul_right _ (show (x.ans.pairs.map Pr.row).length ≤ 1000001 by simp; omega)) (by decide)
                    · simp
                      omega
                    · simp -implicitDefEqProofs (maxSteps := 1000000) (disch := omega) only [↓xsP, ↓vc_seq, xsQ, xsT, xsR, xsD, ↓reduceIte, reduceCtorEq, eq_self, ne_eq, imp_self, forall_const, Nat.reduceEqDiff, Nat.reduceAdd, Nat.reduceSub, Nat.reduceMul, Nat.reduceLT, Nat.reduceLeDiff, Nat.reduceBEq, Nat.reduceDiv, Nat.reduceMod, Int.reduceToNat, Int.reduceNeg, Int.reduceAdd, Int.reduceSub, Int.reduceMul, Int.reduceEq, Int.reduceNe, Int.reduceLT, Int.reduceLE, Int.reduceGT, Int.reduceGE, h10, h11, h12, h5, h4, hMO]
                      refine optI_intro _ (mapDel_ii (ms := ms) ii48 ?_ _) ?_
                      · rw [Mem.set_ne _ _ _ _ (by omega), Mem.set_ne _ _ _ _ (by omega)]
                        exact hMm
                      · simp -implicitDefEqProofs (maxSteps := 1000000) (disch := omega) only [↓xsP, ↓vc_seq, xsQ, xsT, xsR, xsD, ↓reduceIte, reduceCtorEq, eq_self, ne_eq, imp_self, forall_const, Nat.reduceEqDiff, Nat.reduceAdd, Nat.reduceSub, Nat.reduceMul, Nat.reduceLT, Nat.reduceLeDiff, Nat.reduceBEq, Nat.reduceDiv, Nat.reduceMod, Int.reduceToNat, Int.reduceNeg, Int.reduceAdd, Int.reduceSub, Int.reduceMul, Int.reduceEq, Int.reduceNe, Int.reduceLT, Int.reduceLE, Int.reduceGT, Int.reduceGE, h10, h11, h12, h5, h4, hMO]
                        have hp : x.ans.pairs = [] := by simpa using he
                        refine ⟨h.length - (i + 1), (M.set idm (.map ((idel ms x.who).map ient))).set idO (.cells 61 ((out.set (v - 1).toNat { out.getD (v - 1).toNat default with fin := i, ans := x.ans }).map Cl.row) 0), by omega, ?_, i + 1, (out.set (v - 1).toNat { out.getD (v - 1).toNat default with fin := i, ans := x.ans }), idel ms x.who, by omega, rfl, by simp, hlast _ rfl, idel_nod hnod _, by simp; omega, hgd, .inr ⟨idO, ho, by simp, rfl⟩⟩
                        refine step_end hidm ho ?_ (Mem.set_eq _ _ _) (fun j b hj hb => ?_) (set_wk out _ i (out.getD (v - 1).toNat default) x.ans hp)
                        · rw [Mem.set_ne _ _ _ _ (by omega)]
                          exact Mem.set_eq _ _ _
                        · rw [hM']
                          simp only [Mem.set_app]
                          (repeat rw [if_neg (by omega)])
                          exact hb
                    · obtain ⟨hOP, hidP⟩ := bnd_new hidP
                      obtain ⟨h7P, hidP⟩ := bnd_new hidP
                      simp -implicitDefEqProofs (maxSteps := 1000000) (disch := omega) only [↓xsP, ↓vc_seq, xsQ, xsT, xsR, xsD, ↓reduceIte, reduceCtorEq, eq_self, ne_eq, imp_self, forall_const, Nat.reduceEqDiff, Nat.reduceAdd, Nat.reduceSub, Nat.reduceMul, Nat.reduceLT, Nat.reduceLeDiff, Nat.reduceBEq, Nat.reduceDiv, Nat.reduceMod, Int.reduceToNat, Int.reduceNeg, Int.reduceAdd, Int.reduceSub, Int.reduceMul, Int.reduceEq, Int.reduceNe, Int.reduceLT, Int.reduceLE, Int.reduceGT, Int.reduceGE, h10, h11, h12, h5, h4, hMO]
                      refine optI_intro _ (mapDel_ii (ms := ms) ii48 ?_ _) ?_
                      · simp only [Mem.set_app]
                        (repeat rw [if_neg (by omega)])
                        exact hMm
                      · simp -implicitDefEqProofs (maxSteps := 1000000) (disch := omega) only [↓xsP, ↓vc_seq, xsQ, xsT, xsR, xsD, ↓reduceIte, reduceCtorEq, eq_self, ne_eq, imp_self, forall_const, Nat.reduceEqDiff, Nat.reduceAdd, Nat.reduceSub, Nat.reduceMul, Nat.reduceLT, Nat.reduceLeDiff, Nat.reduceBEq, Nat.reduceDiv, Nat.reduceMod, Int.reduceToNat, Int.reduceNeg, Int.reduceAdd, Int.reduceSub, Int.reduceMul, Int.reduceEq, Int.reduceNe, Int.reduceLT, Int.reduceLE, Int.reduceGT, Int.reduceGE, h10, h11, h12, h5, h4, hMO]
                        refine ⟨h.length - (i + 1), (M.set idm (.map ((idel ms x.who).map ient))).set idO (.cells 61 ((out.set (v - 1).toNat { out.getD (v - 1).toNat default with fin := i, ans := x.ans }).map Cl.row) 0), by omega, ?_, i + 1, (out.set (v - 1).toNat { out.getD (v - 1).toNat default with fin := i, ans := x.ans }), idel ms x.who, by omega, rfl, by simp, hlast _ rfl, idel_nod hnod _, by simp; omega, hgd, .inr ⟨idO, ho, by simp, rfl⟩⟩
                        refine step_end_frz (idP := idP) (Tp := 26) (kp := 0) (prow := x.ans.pairs.map Pr.row) hidm ho (by omega) (by omega) ?_ ?_ (Mem.set_eq _ _ _) (fun j b hj hb => ?_) (set_frz idP out _ i (out.getD (v - 1).toNat default) x.ans)
                        · rw [Mem.set_ne _ _ _ _ (by omega)]
                          exact Mem.set_eq _ _ _
                        · rw [Mem.set_ne _ _ _ _ (by omega), Mem.set_ne _ _ _ _ (by omega)]
                          exact Mem.set_eq _ _ _
                        · rw [hM']
                          simp only [Mem.set_app]
                          (repeat rw [if_neg (by omega)])
                          exact hb
            · simp -implicitDefEqProofs (maxSteps := 1000000) (disch := omega) only [↓xsP, ↓vc_seq, xsQ, xsT, xsR, xsD, ↓reduceIte, reduceCtorEq, eq_self, ne_eq, imp_self, forall_const, Nat.reduceEqDiff, Nat.reduceAdd, Nat.reduceSub, Nat.reduceMul, Nat.reduceLT, Nat.reduceLeDiff, Nat.reduceBEq, Nat.reduceDiv, Nat.reduceMod, Int.reduceToNat, Int.reduceNeg, Int.reduceAdd, Int.reduceSub, Int.reduceMul, Int.reduceEq, Int.reduceNe, Int.reduceLT, Int.reduceLE, Int.reduceGT, Int.reduceGE, h10, h11, h12, h5, hg1]
              exact hbad _ (by rw [hstep, if_pos (.inl (by omega))])
      · simp -implicitDefEqProofs (maxSteps := 1000000) (disch := omega) only [↓xsP, ↓vc_seq, xsQ, xsT, xsR, xsD, ↓reduceIte, reduceCtorEq, eq_self, ne_eq, imp_self, forall_const, Nat.reduceEqDiff, Nat.reduceAdd, Nat.reduceSub, Nat.reduceMul, Nat.reduceLT, Nat.reduceLeDiff, Nat.reduceBEq, Nat.reduceDiv, Nat.reduceMod, Int.reduceToNat, Int.reduceNeg, Int.reduceAdd, Int.reduceSub, Int.reduceMul, Int.reduceEq, Int.reduceNe, Int.reduceLT, Int.reduceLE, Int.reduceGT, Int.reduceGE, h10, h11, h12, hw]
        exact hbad _ (by rw [rstep, if_pos (.inl hw)])
    · simp -implicitDefEqProofs (maxSteps := 1000000) (disch := omega) only [↓xsP, ↓vc_seq, xsQ, xsT, xsR, xsD, ↓reduceIte, reduceCtorEq, eq_self, ne_eq, imp_self, forall_const, Nat.reduceEqDiff, Nat.reduceAdd, Nat.reduceSub, Nat.reduceMul, Nat.reduceLT, Nat.reduceLeDiff, Nat.reduceBEq, Nat.reduceDiv, Nat.reduceMod, Int.reduceToNat, Int.reduceNeg, Int.reduceAdd, Int.reduceSub, Int.reduceMul, Int.reduceEq, Int.reduceNe, Int.reduceLT, Int.reduceLE, Int.reduceGT, Int.reduceGE, h10, h11, h12]
      have hil : i = h.length := by omega
      have hP : readV h = .tup [.l (.sl (out.map Cl.row)), .l (.bool true)] := by
        simp only [readV, readP, hrun, hil, List.drop_length, rrun, Option.map_some]
      rcases hmem with ⟨rfl, h4, rfl⟩ | ⟨idO, ho, h4, rfl⟩
      · simp -implicitDefEqProofs (maxSteps := 1000000) (disch := omega) only [↓xsP, ↓vc_seq, xsQ, xsT, xsR, xsD, ↓reduceIte, reduceCtorEq, eq_self, ne_eq, imp_self, forall_const, Nat.reduceEqDiff, Nat.reduceAdd, Nat.reduceSub, Nat.reduceMul, Nat.reduceLT, Nat.reduceLeDiff, Nat.reduceBEq, Nat.reduceDiv, Nat.reduceMod, Int.reduceToNat, Int.reduceNeg, Int.reduceAdd, Int.reduceSub, Int.reduceMul, Int.reduceEq, Int.reduceNe, Int.reduceLT, Int.reduceLE, Int.reduceGT, Int.reduceGE, h4]
        refine finI_of (XFin.wk (XFin.le (le_new (Mem.le_refl _) hidm) ⟨?_, rfl⟩))
        rw [hP]
        simp [wkT, wkA, wkL]
      · simp -implicitDefEqProofs (maxSteps := 1000000) (disch := omega) only [↓xsP, ↓vc_seq, xsQ, xsT, xsR, xsD, ↓reduceIte, reduceCtorEq, eq_self, ne_eq, imp_self, forall_const, Nat.reduceEqDiff, Nat.reduceAdd, Nat.reduceSub, Nat.reduceMul, Nat.reduceLT, Nat.reduceLeDiff, Nat.reduceBEq, Nat.reduceDiv, Nat.reduceMod, Int.reduceToNat, Int.reduceNeg, Int.reduceAdd, Int.reduceSub, Int.reduceMul, Int.reduceEq, Int.reduceNe, Int.reduceLT, Int.reduceLE, Int.reduceGT, Int.reduceGE, h4]
        refine finI_of (XFin.frz idO (Mem.set_eq _ _ _) (XFin.le ?_ ⟨?_, rfl⟩))
        · refine le_new (le_new (le_new (Mem.le_refl _) hidm) ?_) ?_
          · exact fun j hj => hidm j (by omega)
          · exact fun j hj => hidm j (by omega)
        · rw [hP]
          simp [frzA, frz1, frzL, List.take_of_length_le]
end Go.X

/- How a law's arguments, as the statements read them, are abstract values whose cells are never written. -/



set_option linter.unusedVariables false
set_option linter.unusedSimpArgs false
set_option maxRecDepth 100000
namespace Go.X
open Go.RowKit Go.ChangeShapes

/-- The ghost at a call's beginning: all cells that are there stay as they are. -/
def g0 (P : Program) (w : World) : Gh := ⟨fun _ => none, fun b o => ∃ v, w.cell? ⟨b, o, none⟩ = some v, w, P, fun _ => False⟩
def mem0 : Mem := fun _ => none
theorem rel0 (P : Program) (w : World) : Rel (g0 P w) mem0 w where
  blk id b h := by cases h
  inj i j bi bj h := by cases h
  lt id x h := by cases h
  fz b o h := h
  fin := ⟨0, fun id _ => ⟨rfl, rfl, fun h => h⟩⟩
  below := Below.refl _ _

def Opens (P : Program) (t : TypeId) (R : List Lf → Prop) : Prop :=
  ∀ (H : Type) (enc : TypeId × Value → H) (w : World) (spare : Nat → Bool) (held : Bool) (fuel : Nat) (cs : List Value) (x : DataW H × List MemPlace),
    DataW.trod enc P w 0 spare held fuel t cs = some x → (∀ n ∈ x.1.weights P t, n ≤ reachBytes) → ∃ ls, ConcL (g0 P w) w ls cs ∧ R ls

theorem Opens.mono {P : Program} {t : TypeId} {R R' : List Lf → Prop} (h : Opens P t R) (hr : ∀ ls, R ls → R' ls) : Opens P t R' :=
  fun H enc w spare held fuel cs x ht hw => by
    obtain ⟨ls, h1, h2⟩ := h H enc w spare held fuel cs x ht hw
    exact ⟨ls, h1, hr _ h2⟩
theorem opens_int {P : Program} {t : TypeId} {k : IntKind} (ht : P.underlying t = some (.int k)) : Opens P t fun ls => ∃ n, ls = [.int k n] ∧ (Lit.int k n).wf = true :=
  fun H enc w spare held fuel cs x h hw => by
    obtain ⟨n, rfl, _, hn⟩ := DataW.trod_int ht h
    exact ⟨[.int k n], .cons (.int k n) (.nil _ _), n, rfl, hn⟩
theorem opens_bool {P : Program} {t : TypeId} (ht : P.underlying t = some .bool) : Opens P t fun ls => ∃ b, ls = [.bool b] :=
  fun H enc w spare held fuel cs x h hw => by
    obtain ⟨b, rfl, _⟩ := DataW.trod_bool ht h
    exact ⟨[.bool b], .cons (.bool b) (.nil _ _), b, rfl⟩

/-- Fields that lie one behind the other. -/
def Contig (P : Program) : List Field → Nat → Nat → Prop
  | [], o, n => o = n
  | f :: r, o, n => f.offset = o ∧ Contig P r (o + P.cellsOf f.type) n
instance (P : Program) : ∀ (fs : List Field) (o n : Nat), Decidable (Contig P fs o n)
  | [], o, n => inferInstanceAs (Decidable (o = n))
  | f :: r, o, n => @instDecidableAnd _ _ _ (instDecidableContig P r _ n)
def OpensAll (P : Program) : List Field → List (List Lf → Prop) → Prop
  | [], [] => True
  | f :: fs, R :: Rs => Opens P f.type R ∧ OpensAll P fs Rs
  | _, _ => False
def RsAll : List (List Lf → Prop) → List Lf → Prop
  | [], ls => ls = []
  | R :: Rs, ls => ∃ a b, ls = a ++ b ∧ R a ∧ RsAll Rs b

theorem Contig.le {P : Program} : ∀ {fs : List Field} {o n : Nat}, Contig P fs o n → o ≤ n
  | [], o, n, h => Nat.le_of_eq h
  | f :: r, o, n, h => by have := Contig.le h.2; omega
theorem open_fields {H : Type} {enc : TypeId × Value → H} {P : Program} {w : World} {spare : Nat → Bool} {held : Bool} {fuel : Nat} {cs : List Value} :
    ∀ (fs : List Field) (Rs : List (List Lf → Prop)) (xs : List (DataW H × List MemPlace)) (o : Nat), Contig P fs o cs.length → OpensAll P fs Rs → xs.length = fs.length →
      (∀ (i : Nat) (f : Field), fs[i]? = some f → DataW.trod enc P w 0 spare held fuel f.type ((cs.drop f.offset).take (P.cellsOf f.type)) = xs[i]?) →
      (∀ (i : Nat) (f : Field) (y : DataW H × List MemPlace), fs[i]? = some f → xs[i]? = some y → ∀ n ∈ y.1.weights P f.type, n ≤ reachBytes) →
      ∃ ls, ConcL (g0 P w) w ls (cs.drop o) ∧ RsAll Rs ls
  | [], [], xs, o, hc, ho, hl, ht, hw => by
    refine ⟨[], ?_, rfl⟩
    rw [hc, List.drop_length]
    exact .nil _ _
  | [], R :: Rs, xs, o, hc, ho, hl, ht, hw => ho.elim
  | f :: fs, [], xs, o, hc, ho, hl, ht, hw => ho.elim
  | f :: fs, R :: Rs, [], o, hc, ho, hl, ht, hw => by simp at hl
  | f :: fs, R :: Rs, y :: xs, o, hc, ho, hl, ht, hw => by
    have h0 := ht 0 f rfl
    simp only [List.getElem?_cons_zero] at h0
    obtain ⟨a, ha, hra⟩ := ho.1 H enc w spare held fuel _ y h0 (hw 0 f y rfl rfl)
    obtain ⟨b, hb, hrb⟩ := open_fields fs Rs xs (o + P.cellsOf f.type) hc.2 ho.2 (by simpa using hl) (fun i f' hf => by simpa using ht (i + 1) f' (by simpa using hf)) (fun i f' y' hf hy => hw (i + 1) f' y' (by simpa using hf) (by simpa using hy))
    refine ⟨a ++ b, ?_, a, b, rfl, hra, hrb⟩
    have : cs.drop o = (cs.drop f.offset).take (P.cellsOf f.type) ++ cs.drop (o + P.cellsOf f.type) := by
      rw [hc.1, ← List.drop_drop, List.take_append_drop]
    rw [this]
    exact ha.append hb

theorem opens_struct {P : Program} {t : TypeId} {fs : Array Field} (ht : P.underlying t = some (.struct fs)) (Rs : List (List Lf → Prop)) (hc : Contig P fs.toList 0 (P.cellsOf t)) (ho : OpensAll P fs.toList Rs) : Opens P t (RsAll Rs) :=
  fun H enc w spare held fuel cs x h hw => by
    obtain ⟨xs, n, rfl, rfl, hl, hlen, hf⟩ := DataW.trod_struct ht h
    have := open_fields (enc := enc) (w := w) (spare := spare) (held := held) (fuel := n) (cs := cs) fs.toList Rs xs 0 (by rw [hl]; exact hc) ho (by simpa using hlen) (fun i f hf' => hf i f (by simpa using hf')) (fun i f y hf' hy m hm => hw m (by
      simp only [DataW.weights, ht]
      refine DataW.weights_mem_each (j := i) (t := f.type) (d := y.1) ?_ ?_ m hm
      · rw [List.getElem?_map, hf']; rfl
      · rw [List.getElem?_map, hy]; rfl))
    simpa using this

theorem mem_weightsAll {H : Type} {P : Program} {e : TypeId} : ∀ {l : List (DataW H)} {d : DataW H}, d ∈ l → ∀ n ∈ d.weights P e, n ∈ DataW.weightsAll P e l
  | [], d, h, _, _ => by cases h
  | y :: r, d, h, n, hn => by
    simp only [DataW.weightsAll, List.mem_append]
    rcases List.mem_cons.1 h with rfl | h
    · exact .inl hn
    · exact .inr (mem_weightsAll h n hn)

theorem opens_slice {P : Program} {t e : TypeId} {R : List Lf → Prop} (ht : P.underlying t = some (.slice e)) (he : Opens P e R) (hpos : 0 < P.cellsOf e) :
    Opens P t fun ls => ∃ rows, ls = [.sl rows] ∧ (∀ r ∈ rows, R r) ∧ rows.length * P.bytesOf e ≤ reachBytes :=
  fun H enc w spare held fuel cs x h hw => by
    rcases DataW.trod_slice ht h with ⟨rfl, rfl⟩ | ⟨a, len, cap, elems, rest, n, rfl, rfl, rfl, hb, hlc, hcm, hel, hs, hsp, hns⟩
    · exact ⟨[.sl []], .cons .sl0 (.nil _ _), [], rfl, (fun r hr => by cases hr), by simp⟩
    · have hbytes : len * P.bytesOf e ≤ reachBytes := by
        have h1 : (elems.length + rest.length) * P.bytesOf e ≤ reachBytes := hw _ (by simp [DataW.weights, ht])
        have h2 : len * P.bytesOf e ≤ (elems.length + rest.length) * P.bytesOf e := Nat.mul_le_mul_right _ (by omega)
        omega
      by_cases h0 : len = 0
      · subst h0
        exact ⟨[.sl []], .cons .sl0 (.nil _ _), [], rfl, (fun r hr => by cases hr), by simp⟩
      · have each : ∀ i, i < len → ∃ ls cs', w.cells? 0 (a.add (i * P.cellsOf e)) (P.cellsOf e) = some cs' ∧ ConcL (g0 P w) w ls cs' ∧ R ls := fun i hi => by
          have h1 := hs i hi
          have hi' : i < elems.length := by omega
          rw [List.getElem?_eq_getElem hi', Option.bind_eq_some_iff] at h1
          obtain ⟨cs', h2, h3⟩ := h1
          obtain ⟨ls, h4, h5⟩ := he H enc w spare held n cs' _ h3 (fun m hm => hw m (by
            simp only [DataW.weights, ht, List.mem_cons, List.mem_append]
            refine .inr (.inl (mem_weightsAll (List.mem_map.2 ⟨_, List.getElem_mem hi', rfl⟩) m hm))))
          exact ⟨ls, cs', h2, h4, h5⟩
        have hspot : a.spot = none := by
          obtain ⟨ls, cs', h2, _, _⟩ := each 0 (by omega)
          have h3 := (World.cells?_some h2).2.2 0 hpos
          have hl := (World.cells?_some h2).2.1
          have e1 : (a.add (0 * P.cellsOf e)).add 0 = a := by simp [Addr.add]
          rw [e1] at h3
          have h4 : cs'[0]? = some cs'[0] := List.getElem?_eq_getElem (by omega)
          rw [h4] at h3
          cases hsp : a.spot with
          | none => rfl
          | some s =>
            unfold World.cell? at h3
            split at h3
            · rw [hsp] at h3; cases h3
            · cases h3
        obtain ⟨b, o, sp⟩ := a
        simp only at hspot
        subst hspot
        have each' : ∀ i, ∃ ls, i < len → ∃ cs', w.cells? 0 ((⟨b, o, none⟩ : Addr).add (i * P.cellsOf e)) (P.cellsOf e) = some cs' ∧ ConcL (g0 P w) w ls cs' ∧ R ls := fun i => by
          by_cases hi : i < len
          · obtain ⟨ls, cs', h1⟩ := each i hi
            exact ⟨ls, fun _ => ⟨cs', h1⟩⟩
          · exact ⟨[], fun h => absurd h hi⟩
        let f : Nat → List Lf := fun i => Classical.choose (each' i)
        have hf : ∀ i, i < len → ∃ cs', w.cells? 0 ((⟨b, o, none⟩ : Addr).add (i * P.cellsOf e)) (P.cellsOf e) = some cs' ∧ ConcL (g0 P w) w (f i) cs' ∧ R (f i) := fun i hi => Classical.choose_spec (each' i) hi
        have hcell : ∀ i j, i < len → j < P.cellsOf e → ∃ v x, w.cell? ⟨b, o + (i * P.cellsOf e + j), none⟩ = some v ∧ (f i)[j]? = some x ∧ Conc (g0 P w) w x v := fun i j hi hj => by
          obtain ⟨cs', h1, h2, h3⟩ := hf i hi
          obtain ⟨_, hl, hc⟩ := World.cells?_some h1
          have h4 := hc j hj
          rw [addr_add, addr_add, Nat.add_assoc] at h4
          have hj' : j < cs'.length := by omega
          have hj2 : j < (f i).length := by rw [h2.1]; exact hj'
          refine ⟨cs'[j], (f i)[j], by rw [h4]; exact List.getElem?_eq_getElem hj', List.getElem?_eq_getElem hj2, h2.2 j _ _ (List.getElem?_eq_getElem hj2) (List.getElem?_eq_getElem hj')⟩
        refine ⟨[.sl ((List.range len).map f)], .cons ?_ (.nil _ _), _, rfl, (fun r hr => ?_), by simpa using hbytes⟩
        · have hln : ((List.range len).map f).length = len := by simp
          have hc := Conc.sl (g := g0 P w) (w := w) (rows := (List.range len).map f) (b := b) (o := o) (sz := P.cellsOf e) (cap := cap) (fun k => (w.cell? ⟨b, o + k, none⟩).getD undef) ?_ (by simpa using hlc) ?_ ?_
          · rw [hln] at hc
            exact hc
          · intro r hr
            obtain ⟨i, hi, rfl⟩ := List.mem_map.1 hr
            obtain ⟨cs', h1, h2, h3⟩ := hf i (by simpa using hi)
            rw [h2.1, (World.cells?_some h1).2.1]
          · intro k hk
            rw [hln] at hk
            have hi : k / P.cellsOf e < len := (Nat.div_lt_iff_lt_mul hpos).2 hk
            have hj : k % P.cellsOf e < P.cellsOf e := Nat.mod_lt _ hpos
            obtain ⟨v, x, h1, h2, h3⟩ := hcell _ _ hi hj
            rw [Nat.div_add_mod'] at h1
            rw [h1]
            exact ⟨⟨v, h1⟩, rfl⟩
          · intro i j r x hr hx
            rw [List.getElem?_map] at hr
            obtain ⟨i', hi', rfl⟩ := Option.map_eq_some_iff.1 hr
            have hi2 : i < len := by
              have := (List.getElem?_eq_some_iff.1 hi').1
              simpa using this
            have e1 : i' = i := by
              rw [List.getElem?_range hi2] at hi'
              simpa using hi'.symm
            subst e1
            obtain ⟨cs', h1, h2, h3⟩ := hf i' hi2
            have hj : j < P.cellsOf e := by
              have := (List.getElem?_eq_some_iff.1 hx).1
              rw [h2.1, (World.cells?_some h1).2.1] at this
              exact this
            obtain ⟨v, y, k1, k2, k3⟩ := hcell _ _ hi2 hj
            rw [hx, Option.some.injEq] at k2
            subst k2
            rw [k1]
            exact k3
        · obtain ⟨i, hi, rfl⟩ := List.mem_map.1 hr
          obtain ⟨cs', h1, h2, h3⟩ := hf i (by simpa using hi)
          exact h3
end Go.X

/- How the arguments of the laws read: histories, operations, pairs, answers. -/



set_option linter.unusedVariables false
set_option linter.unusedSimpArgs false
set_option maxRecDepth 100000
namespace Go.X
open Go.Proofs.Try (prog)

def tysOf (P : Program) (t : TypeId) : Option (List TypeId) := match P.underlying t with
  | some (.struct fs) => if Contig P fs.toList 0 (P.cellsOf t) then some (fs.toList.map (·.type)) else none
  | _ => none
def OpensT (P : Program) : List TypeId → List (List Lf → Prop) → Prop
  | [], [] => True
  | t :: ts, R :: Rs => Opens P t R ∧ OpensT P ts Rs
  | _, _ => False
theorem OpensT.all {P : Program} : ∀ {fs : List Field} {Rs : List (List Lf → Prop)}, OpensT P (fs.map (·.type)) Rs → OpensAll P fs Rs
  | [], [], _ => trivial
  | f :: fs, R :: Rs, h => ⟨h.1, OpensT.all h.2⟩
  | [], R :: Rs, h => h.elim
  | f :: fs, [], h => h.elim
theorem opens_tys {P : Program} {t : TypeId} {ts : List TypeId} (ht : tysOf P t = some ts) (Rs : List (List Lf → Prop)) (ho : OpensT P ts Rs) : Opens P t (RsAll Rs) := by
  unfold tysOf at ht
  split at ht
  · rename_i fs hu
    split at ht
    · rename_i hc
      simp only [Option.some.injEq] at ht
      subst ht
      exact opens_struct hu Rs hc ho.all
    · cases ht
  · cases ht
theorem rows_map {α : Type} {row : α → List Lf} {B : α → Prop} : ∀ {rows : List (List Lf)}, (∀ r ∈ rows, ∃ a, r = row a ∧ B a) → ∃ l : List α, rows = l.map row ∧ ∀ a ∈ l, B a
  | [], _ => ⟨[], rfl, fun a h => by cases h⟩
  | r :: rs, h => by
    obtain ⟨a, rfl, ha⟩ := h r (by simp)
    obtain ⟨l, rfl, hl⟩ := rows_map (rows := rs) fun x hx => h x (by simp [hx])
    exact ⟨a :: l, rfl, fun x hx => by
      rcases List.mem_cons.1 hx with rfl | hx
      · exact ha
      · exact hl x hx⟩
def IsI (ls : List Lf) : Prop := ∃ n, ls = [.int .i64 n]
def IsB (ls : List Lf) : Prop := ∃ b, ls = [.bool b]
theorem o_i {t : TypeId} (ht : Go.Proofs.Try.prog.underlying t = some (.int .i64)) : Opens Go.Proofs.Try.prog t IsI := (opens_int ht).mono fun ls ⟨n, h, _⟩ => ⟨n, h⟩
theorem o_b {t : TypeId} (ht : Go.Proofs.Try.prog.underlying t = some .bool) : Opens Go.Proofs.Try.prog t IsB := opens_bool ht
theorem o_pr : Opens Go.Proofs.Try.prog 26 fun ls => ∃ p : Pr, ls = p.row ∧ True := by
  refine (opens_tys (ts := [3, 3]) (by kernel_rfl) [IsI, IsI] ⟨o_i (by kernel_rfl), o_i (by kernel_rfl), trivial⟩).mono ?_
  rintro ls ⟨a, b, rfl, ⟨x, rfl⟩, c, d, rfl, ⟨y, rfl⟩, rfl⟩
  exact ⟨⟨x, y⟩, rfl, trivial⟩
def big : Nat := 140737488355328
theorem len_of {n b : Nat} (hb : 0 < b) (h : n * b ≤ reachBytes) : n ≤ big := by
  have h1 : n * 1 ≤ n * b := Nat.mul_le_mul_left _ hb
  have h2 : reachBytes < big := by decide
  omega
theorem o_prs : Opens Go.Proofs.Try.prog 27 fun ls => ∃ ps : List Pr, ls = [.sl (ps.map Pr.row)] ∧ ps.length ≤ big := by
  refine (opens_slice (by kernel_rfl) o_pr (of_decide_eq_true (by kernel_rfl))).mono ?_
  rintro ls ⟨rows, rfl, hr, hb⟩
  obtain ⟨ps, rfl, _⟩ := rows_map hr
  exact ⟨ps, rfl, by simpa using len_of (of_decide_eq_true (by kernel_rfl)) hb⟩
theorem o_op : Opens Go.Proofs.Try.prog 23 fun ls => ∃ o : Opn, ls = o.row := by
  refine (opens_tys (ts := [3, 3, 3, 3]) (by kernel_rfl) [IsI, IsI, IsI, IsI] ⟨o_i (by kernel_rfl), o_i (by kernel_rfl), o_i (by kernel_rfl), o_i (by kernel_rfl), trivial⟩).mono ?_
  rintro ls ⟨a, b, rfl, ⟨x, rfl⟩, c, d, rfl, ⟨y, rfl⟩, e, f, rfl, ⟨z, rfl⟩, g, h, rfl, ⟨u, rfl⟩, rfl⟩
  exact ⟨⟨x, y, z, u⟩, rfl⟩
theorem o_ans : Opens Go.Proofs.Try.prog 29 fun ls => ∃ a : Ans, ls = a.row ∧ a.pairs.length ≤ big := by
  refine (opens_tys (ts := [24, 4, 26, 3, 27]) (by kernel_rfl) [IsI, IsB, _, IsI, _] ⟨o_i (by kernel_rfl), o_b (by kernel_rfl), o_pr, o_i (by kernel_rfl), o_prs, trivial⟩).mono ?_
  rintro ls ⟨a, b, rfl, ⟨x, rfl⟩, c, d, rfl, ⟨y, rfl⟩, e, f, rfl, ⟨p, rfl, _⟩, g, h, rfl, ⟨u, rfl⟩, i, j, rfl, ⟨ps, rfl, hb⟩, rfl⟩
  exact ⟨⟨x, y, p, u, ps⟩, rfl, hb⟩
theorem o_evt : Opens Go.Proofs.Try.prog 65 fun ls => ∃ e : Evt, ls = e.row ∧ e.ans.pairs.length ≤ big := by
  refine (opens_tys (ts := [3, 4, 23, 29]) (by kernel_rfl) [IsI, IsB, _, _] ⟨o_i (by kernel_rfl), o_b (by kernel_rfl), o_op, o_ans, trivial⟩).mono ?_
  rintro ls ⟨a, b, rfl, ⟨x, rfl⟩, c, d, rfl, ⟨y, rfl⟩, e, f, rfl, ⟨o, rfl⟩, g, h, rfl, ⟨u, rfl, hb⟩, rfl⟩
  exact ⟨⟨x, y, o, u⟩, rfl, hb⟩
theorem o_evts : Opens Go.Proofs.Try.prog 53 fun ls => ∃ h : List Evt, ls = [.sl (h.map Evt.row)] ∧ h.length ≤ big ∧ ∀ x ∈ h, x.ans.pairs.length ≤ big := by
  refine (opens_slice (by kernel_rfl) o_evt (of_decide_eq_true (by kernel_rfl))).mono ?_
  rintro ls ⟨rows, rfl, hr, hb⟩
  obtain ⟨l, rfl, hl⟩ := rows_map hr
  exact ⟨l, rfl, by simpa using len_of (of_decide_eq_true (by kernel_rfl)) hb, hl⟩
end Go.X

/- From a law's walk to its statement: the arguments, one by one, and the call. -/








set_option linter.unusedVariables false
set_option linter.unusedSimpArgs false
set_option maxRecDepth 100000
namespace Go.X
open Go.Proofs.Try (prog)
open Go.RowKit Go.ChangeShapes Go.WideShapes Go.ChangeAt

theorem calls_law {P : Program} {f : FuncId} {args : List AV} {vs : Array Value} {W : World} (hx : XCalls P f args mem0 fun r M' => r = .l (.bool true) ∧ M' = mem0) (hA : ArgsR (g0 P W) W args vs) :
    Calls P f vs W fun e W' => e = .returned (.bool true) ∧ Below W.heap.size W W' := by
  refine (hx.2 (g0 P W) W vs rfl hA (rel0 P W)).mono ?_
  rintro e w' ⟨rv, v, g', M', rfl, ⟨rfl, rfl⟩, hev, hc, hR⟩
  cases hc with
  | l hc =>
    cases hc
    have := hR.below
    rw [hev.w0] at this
    exact ⟨rfl, this⟩

theorem argsR_nil {g : Gh} {w : World} : ArgsR g w [] #[] := ⟨rfl, fun i x v h => by simp at h⟩
theorem argsR_cons {g : Gh} {w : World} {x : AV} {v : Value} {xs : List AV} {vs : List Value} (h : ConcA g w x v) (hs : ArgsR g w xs vs.toArray) : ArgsR g w (x :: xs) (v :: vs).toArray := by
  refine ⟨by simp [hs.1], fun i y u hy hu => ?_⟩
  cases i with
  | zero => simp at hy hu; subst hy; subst hu; exact h
  | succ i => exact hs.2 i y u (by simpa using hy) (by simpa using hu)

theorem struct_of {P : Program} {t : TypeId} (h : (match P.underlying t with | some (.struct _) => true | _ => false) = true) : ∃ fs, P.underlying t = some (.struct fs) := by
  split at h
  · rename_i fs hf
    exact ⟨fs, hf⟩
  · cases h
section
variable {H : Type} {enc : TypeId × Value → H} {W : World} {base : Nat} {v : Value} {d : DataW H} {p : List MemPlace}

theorem arg_l {R : Lf → Prop} {t e : TypeId} (hu : Go.Proofs.Try.prog.underlying t = some (.slice e)) (ho : Opens Go.Proofs.Try.prog t fun ls => ∃ x, ls = [x] ∧ R x) (hok : Value.okWide Go.Proofs.Try.prog W .any base t v)
    (h : DataW.Trod enc Go.Proofs.Try.prog W 0 (fun _ => true) true t v d p) (hw : ∀ n ∈ d.weights Go.Proofs.Try.prog t, n ≤ reachBytes) : ∃ x, ConcA (g0 Go.Proofs.Try.prog W) W (.l x) v ∧ R x := by
  obtain ⟨a, len, cap, rfl⟩ := okWide_slice hu hok
  obtain ⟨fuel, hf⟩ := h
  obtain ⟨ls, h1, x, rfl, h2⟩ := ho H enc W _ _ fuel _ _ hf hw
  exact ⟨x, .l (h1.2 0 x _ rfl (by rfl)), h2⟩
theorem arg_agg {R : List Lf → Prop} {t : TypeId} {fs : Array Field} (hu : Go.Proofs.Try.prog.underlying t = some (.struct fs)) (ho : Opens Go.Proofs.Try.prog t R) (hok : Value.okWide Go.Proofs.Try.prog W .any base t v)
    (h : DataW.Trod enc Go.Proofs.Try.prog W 0 (fun _ => true) true t v d p) (hw : ∀ n ∈ d.weights Go.Proofs.Try.prog t, n ≤ reachBytes) : ∃ ls, ConcA (g0 Go.Proofs.Try.prog W) W (.agg ls) v ∧ R ls := by
  obtain ⟨cs, rfl, _⟩ := okWide_struct hu hok
  obtain ⟨fuel, hf⟩ := h
  obtain ⟨ls, h1, h2⟩ := ho H enc W _ _ fuel _ _ hf hw
  refine ⟨ls, ?_, h2⟩
  have : (Value.agg cs) = .agg cs.toList.toArray := rfl
  rw [this]
  exact .agg _ h1

theorem arg_int (hok : Value.okWide Go.Proofs.Try.prog W .any base 3 v) (h : DataW.Trod enc Go.Proofs.Try.prog W 0 (fun _ => true) true 3 v d p) (hw : ∀ n ∈ d.weights Go.Proofs.Try.prog 3, n ≤ reachBytes) :
    ∃ n, ConcA (g0 Go.Proofs.Try.prog W) W (.l (.int .i64 n)) v := by
  obtain ⟨n, rfl, _⟩ := open_int (k := .i64) (by kernel_rfl) hok h
  exact ⟨n, .l (.int _ _)⟩
theorem arg_intr (hok : Value.okWide Go.Proofs.Try.prog W .any base 3 v) (h : DataW.Trod enc Go.Proofs.Try.prog W 0 (fun _ => true) true 3 v d p) (hw : ∀ n ∈ d.weights Go.Proofs.Try.prog 3, n ≤ reachBytes) :
    ∃ n, ConcA (g0 Go.Proofs.Try.prog W) W (.l (.int .i64 n)) v ∧ -9223372036854775808 ≤ n ∧ n ≤ 9223372036854775807 := by
  obtain ⟨n, rfl, _, _, hwf⟩ := open_int (k := .i64) (by kernel_rfl) hok h
  refine ⟨n, .l (.int _ _), ?_⟩
  simp [Lit.wf, IntKind.min, IntKind.max, IntKind.bits, IntKind.signed] at hwf
  omega
theorem arg_evts (hok : Value.okWide Go.Proofs.Try.prog W .any base 53 v) (h : DataW.Trod enc Go.Proofs.Try.prog W 0 (fun _ => true) true 53 v d p) (hw : ∀ n ∈ d.weights Go.Proofs.Try.prog 53, n ≤ reachBytes) :
    ∃ h : List Evt, ConcA (g0 Go.Proofs.Try.prog W) W (.l (.sl (h.map Evt.row))) v ∧ h.length ≤ big ∧ ∀ x ∈ h, x.ans.pairs.length ≤ big := by
  obtain ⟨x, h1, l, rfl, h2⟩ := arg_l (R := fun x => ∃ h : List Evt, x = .sl (h.map Evt.row) ∧ h.length ≤ big ∧ ∀ x ∈ h, x.ans.pairs.length ≤ big) (e := 65) (by kernel_rfl) (o_evts.mono fun ls ⟨l, h3, h4⟩ => ⟨_, h3, l, rfl, h4⟩) hok h hw
  exact ⟨l, h1, h2⟩
theorem arg_op (hok : Value.okWide Go.Proofs.Try.prog W .any base 23 v) (h : DataW.Trod enc Go.Proofs.Try.prog W 0 (fun _ => true) true 23 v d p) (hw : ∀ n ∈ d.weights Go.Proofs.Try.prog 23, n ≤ reachBytes) :
    ∃ o : Opn, ConcA (g0 Go.Proofs.Try.prog W) W (.agg o.row) v := by
  obtain ⟨fs, hu⟩ : ∃ fs, Go.Proofs.Try.prog.underlying 23 = some (.struct fs) := struct_of (by kernel_rfl)
  obtain ⟨ls, h1, o, rfl⟩ := arg_agg hu o_op hok h hw
  exact ⟨o, h1⟩
theorem arg_prs (hok : Value.okWide Go.Proofs.Try.prog W .any base 27 v) (h : DataW.Trod enc Go.Proofs.Try.prog W 0 (fun _ => true) true 27 v d p) (hw : ∀ n ∈ d.weights Go.Proofs.Try.prog 27, n ≤ reachBytes) :
    ∃ l : List Pr, ConcA (g0 Go.Proofs.Try.prog W) W (.l (.sl (l.map Pr.row))) v ∧ l.length ≤ big := by
  obtain ⟨x, h1, l, rfl, h2⟩ := arg_l (R := fun x => ∃ h : List Pr, x = .sl (h.map Pr.row) ∧ h.length ≤ big) (e := 26) (by kernel_rfl) (o_prs.mono fun ls ⟨l, h3, h4⟩ => ⟨_, h3, l, rfl, h4⟩) hok h hw
  exact ⟨l, h1, h2⟩
end
end Go.X

/- What past's functions do: May, Calls, Over, Solo. -/


set_option linter.unusedVariables false
set_option linter.unusedSimpArgs false
set_option maxHeartbeats 20000000
set_option maxRecDepth 100000
namespace Go.X
open Go.Proofs.Try (prog)

/-- The calls of a history, none if it may not be. -/
noncomputable def callsP (h : List Evt) : List Cl := (readP h).getD []
noncomputable def okP (h : List Evt) : Bool := (readP h).isSome
theorem readV_eq (h : List Evt) : readV h = .tup [.l (.sl ((callsP h).map Cl.row)), .l (.bool (okP h))] := by
  unfold readV callsP okP
  cases readP h <;> rfl

theorem pmay_spec (h : List Evt) (hs : Small h) (M : Mem) : XCalls Go.Proofs.Try.prog 32 [.l (.sl (h.map Evt.row))] M fun r M' => r = .l (.bool (okP h)) ∧ M' = M := by
  refine xcalls_intro (rs := [.tmp 2]) Go.Proofs.Try.func32 rfl (by kernel_rfl) rfl rfl (by kernel_rfl) (by simp) ?_
  simp -implicitDefEqProofs (maxSteps := 1000000) (disch := omega) only [↓xsP, ↓vc_seq, xsQ, xsT, xsR, xsD, ↓reduceIte, reduceCtorEq, eq_self, ne_eq, imp_self, forall_const, Nat.reduceEqDiff, Nat.reduceAdd, Nat.reduceSub, Nat.reduceMul, Nat.reduceLT, Nat.reduceLeDiff, Nat.reduceBEq, Nat.reduceDiv, Nat.reduceMod, Int.reduceToNat, Int.reduceNeg, Int.reduceAdd, Int.reduceSub, Int.reduceMul, Int.reduceEq, Int.reduceNe, Int.reduceLT, Int.reduceLE, Int.reduceGT, Int.reduceGE]
  refine call_of (read_spec h hs _) ?_
  simp -implicitDefEqProofs (maxSteps := 1000000) (disch := omega) only [↓xsP, ↓vc_seq, xsQ, xsT, xsR, xsD, ↓reduceIte, reduceCtorEq, eq_self, ne_eq, imp_self, forall_const, Nat.reduceEqDiff, Nat.reduceAdd, Nat.reduceSub, Nat.reduceMul, Nat.reduceLT, Nat.reduceLeDiff, Nat.reduceBEq, Nat.reduceDiv, Nat.reduceMod, Int.reduceToNat, Int.reduceNeg, Int.reduceAdd, Int.reduceSub, Int.reduceMul, Int.reduceEq, Int.reduceNe, Int.reduceLT, Int.reduceLE, Int.reduceGT, Int.reduceGE, readV_eq]
  exact fin_ok (Mem.le_refl _) ⟨rfl, rfl⟩

theorem pcalls_spec (h : List Evt) (hs : Small h) (M : Mem) : XCalls Go.Proofs.Try.prog 30 [.l (.sl (h.map Evt.row))] M fun r M' => r = .l (.sl ((callsP h).map Cl.row)) ∧ M' = M := by
  refine xcalls_intro (rs := [.tmp 2]) Go.Proofs.Try.func30 rfl (by kernel_rfl) rfl rfl (by kernel_rfl) (by simp) ?_
  simp -implicitDefEqProofs (maxSteps := 1000000) (disch := omega) only [↓xsP, ↓vc_seq, xsQ, xsT, xsR, xsD, ↓reduceIte, reduceCtorEq, eq_self, ne_eq, imp_self, forall_const, Nat.reduceEqDiff, Nat.reduceAdd, Nat.reduceSub, Nat.reduceMul, Nat.reduceLT, Nat.reduceLeDiff, Nat.reduceBEq, Nat.reduceDiv, Nat.reduceMod, Int.reduceToNat, Int.reduceNeg, Int.reduceAdd, Int.reduceSub, Int.reduceMul, Int.reduceEq, Int.reduceNe, Int.reduceLT, Int.reduceLE, Int.reduceGT, Int.reduceGE]
  refine call_of (read_spec h hs _) ?_
  simp -implicitDefEqProofs (maxSteps := 1000000) (disch := omega) only [↓xsP, ↓vc_seq, xsQ, xsT, xsR, xsD, ↓reduceIte, reduceCtorEq, eq_self, ne_eq, imp_self, forall_const, Nat.reduceEqDiff, Nat.reduceAdd, Nat.reduceSub, Nat.reduceMul, Nat.reduceLT, Nat.reduceLeDiff, Nat.reduceBEq, Nat.reduceDiv, Nat.reduceMod, Int.reduceToNat, Int.reduceNeg, Int.reduceAdd, Int.reduceSub, Int.reduceMul, Int.reduceEq, Int.reduceNe, Int.reduceLT, Int.reduceLE, Int.reduceGT, Int.reduceGE, readV_eq]
  exact fin_ok (Mem.le_refl _) ⟨rfl, rfl⟩

theorem rrun_len : ∀ (l : List Evt) (i : Nat) (s s' : List Cl × List (Int × Int)), rrun l i s = some s' → s'.1.length ≤ s.1.length + l.length
  | [], i, s, s', h => by simp only [rrun, Option.some.injEq] at h; subst h; simp
  | x :: r, i, s, s', h => by
    simp only [rrun] at h
    cases hx : rstep i x s with
    | none => rw [hx] at h; cases h
    | some s1 =>
      rw [hx] at h
      have ih := rrun_len r (i + 1) s1 s' h
      have : s1.1.length ≤ s.1.length + 1 := by
        unfold rstep at hx
        split at hx
        · cases hx
        · split at hx
          · split at hx
            · cases hx
            · simp only [Option.some.injEq] at hx; subst hx; simp
          · split at hx
            · cases hx
            · simp only [Option.some.injEq] at hx; subst hx; simp
      simp only [List.length_cons]
      omega
theorem callsP_len (h : List Evt) : (callsP h).length ≤ h.length := by
  unfold callsP readP
  cases hr : rrun h 0 ([], []) with
  | none => simp
  | some s =>
    have := rrun_len h 0 ([], []) s hr
    simpa using this

noncomputable def overP (h : List Evt) : Bool := okP h && (callsP h).all fun c => decide (0 ≤ c.fin)
theorem over_spec (h : List Evt) (hs : Small h) (M : Mem) : XCalls Go.Proofs.Try.prog 37 [.l (.sl (h.map Evt.row))] M fun r M' => r = .l (.bool (overP h)) ∧ M' = M := by
  refine xcalls_intro (rs := [.tmp 2]) Go.Proofs.Try.func37 rfl (by kernel_rfl) rfl rfl (by kernel_rfl) (by simp) ?_
  simp -implicitDefEqProofs (maxSteps := 1000000) (disch := omega) only [↓xsP, ↓vc_seq, xsQ, xsT, xsR, xsD, ↓reduceIte, reduceCtorEq, eq_self, ne_eq, imp_self, forall_const, Nat.reduceEqDiff, Nat.reduceAdd, Nat.reduceSub, Nat.reduceMul, Nat.reduceLT, Nat.reduceLeDiff, Nat.reduceBEq, Nat.reduceDiv, Nat.reduceMod, Int.reduceToNat, Int.reduceNeg, Int.reduceAdd, Int.reduceSub, Int.reduceMul, Int.reduceEq, Int.reduceNe, Int.reduceLT, Int.reduceLE, Int.reduceGT, Int.reduceGE]
  refine call_of (read_spec h hs _) ?_
  have hcl := callsP_len h
  have hs1 := hs.1
  simp -implicitDefEqProofs (maxSteps := 1000000) (disch := omega) only [↓xsP, ↓vc_seq, xsQ, xsT, xsR, xsD, ↓reduceIte, reduceCtorEq, eq_self, ne_eq, imp_self, forall_const, Nat.reduceEqDiff, Nat.reduceAdd, Nat.reduceSub, Nat.reduceMul, Nat.reduceLT, Nat.reduceLeDiff, Nat.reduceBEq, Nat.reduceDiv, Nat.reduceMod, Int.reduceToNat, Int.reduceNeg, Int.reduceAdd, Int.reduceSub, Int.reduceMul, Int.reduceEq, Int.reduceNe, Int.reduceLT, Int.reduceLE, Int.reduceGT, Int.reduceGE, readV_eq]
  refine loopI_of (xloop (by kernel_rfl) (fun k fr M' => ∃ i : Nat, i ≤ (callsP h).length ∧ k = (callsP h).length - i ∧ fr 4 = .l (.bool (okP h && ((callsP h).take i).all fun c => decide (0 ≤ c.fin))) ∧ fr 12 = .l (.sl ((callsP h).map Cl.row)) ∧ fr 13 = .l (.int .i64 (callsP h).length) ∧ fr 14 = .l (.int .i64 i) ∧ M' = M) (callsP h).length ?_ ?_)
  · exact ⟨0, Nat.zero_le _, rfl, by simp -implicitDefEqProofs (maxSteps := 1000000) (disch := omega) only [↓xsP, ↓vc_seq, xsQ, xsT, xsR, xsD, ↓reduceIte, reduceCtorEq, eq_self, ne_eq, imp_self, forall_const, Nat.reduceEqDiff, Nat.reduceAdd, Nat.reduceSub, Nat.reduceMul, Nat.reduceLT, Nat.reduceLeDiff, Nat.reduceBEq, Nat.reduceDiv, Nat.reduceMod, Int.reduceToNat, Int.reduceNeg, Int.reduceAdd, Int.reduceSub, Int.reduceMul, Int.reduceEq, Int.reduceNe, Int.reduceLT, Int.reduceLE, Int.reduceGT, Int.reduceGE], by simp -implicitDefEqProofs (maxSteps := 1000000) (disch := omega) only [↓xsP, ↓vc_seq, xsQ, xsT, xsR, xsD, ↓reduceIte, reduceCtorEq, eq_self, ne_eq, imp_self, forall_const, Nat.reduceEqDiff, Nat.reduceAdd, Nat.reduceSub, Nat.reduceMul, Nat.reduceLT, Nat.reduceLeDiff, Nat.reduceBEq, Nat.reduceDiv, Nat.reduceMod, Int.reduceToNat, Int.reduceNeg, Int.reduceAdd, Int.reduceSub, Int.reduceMul, Int.reduceEq, Int.reduceNe, Int.reduceLT, Int.reduceLE, Int.reduceGT, Int.reduceGE], by simp -implicitDefEqProofs (maxSteps := 1000000) (disch := omega) only [↓xsP, ↓vc_seq, xsQ, xsT, xsR, xsD, ↓reduceIte, reduceCtorEq, eq_self, ne_eq, imp_self, forall_const, Nat.reduceEqDiff, Nat.reduceAdd, Nat.reduceSub, Nat.reduceMul, Nat.reduceLT, Nat.reduceLeDiff, Nat.reduceBEq, Nat.reduceDiv, Nat.reduceMod, Int.reduceToNat, Int.reduceNeg, Int.reduceAdd, Int.reduceSub, Int.reduceMul, Int.reduceEq, Int.reduceNe, Int.reduceLT, Int.reduceLE, Int.reduceGT, Int.reduceGE], by simp -implicitDefEqProofs (maxSteps := 1000000) (disch := omega) only [↓xsP, ↓vc_seq, xsQ, xsT, xsR, xsD, ↓reduceIte, reduceCtorEq, eq_self, ne_eq, imp_self, forall_const, Nat.reduceEqDiff, Nat.reduceAdd, Nat.reduceSub, Nat.reduceMul, Nat.reduceLT, Nat.reduceLeDiff, Nat.reduceBEq, Nat.reduceDiv, Nat.reduceMod, Int.reduceToNat, Int.reduceNeg, Int.reduceAdd, Int.reduceSub, Int.reduceMul, Int.reduceEq, Int.reduceNe, Int.reduceLT, Int.reduceLE, Int.reduceGT, Int.reduceGE, Int.cast_ofNat_Int], rfl⟩
  · rintro k fr M' ⟨i, hi, rfl, h4, h12, h13, h14, rfl⟩
    simp -implicitDefEqProofs (maxSteps := 1000000) (disch := omega) only [↓xsP, ↓vc_seq, xsQ, xsT, xsR, xsD, ↓reduceIte, reduceCtorEq, eq_self, ne_eq, imp_self, forall_const, Nat.reduceEqDiff, Nat.reduceAdd, Nat.reduceSub, Nat.reduceMul, Nat.reduceLT, Nat.reduceLeDiff, Nat.reduceBEq, Nat.reduceDiv, Nat.reduceMod, Int.reduceToNat, Int.reduceNeg, Int.reduceAdd, Int.reduceSub, Int.reduceMul, Int.reduceEq, Int.reduceNe, Int.reduceLT, Int.reduceLE, Int.reduceGT, Int.reduceGE, h4, h12, h13, h14]
    refine condI_prop (fun hlt => ?_) (fun hlt => ?_)
    · simp -implicitDefEqProofs (maxSteps := 1000000) (disch := omega) only [↓xsP, ↓vc_seq, xsQ, xsT, xsR, xsD, ↓reduceIte, reduceCtorEq, eq_self, ne_eq, imp_self, forall_const, Nat.reduceEqDiff, Nat.reduceAdd, Nat.reduceSub, Nat.reduceMul, Nat.reduceLT, Nat.reduceLeDiff, Nat.reduceBEq, Nat.reduceDiv, Nat.reduceMod, Int.reduceToNat, Int.reduceNeg, Int.reduceAdd, Int.reduceSub, Int.reduceMul, Int.reduceEq, Int.reduceNe, Int.reduceLT, Int.reduceLE, Int.reduceGT, Int.reduceGE, h4, h12, h13, h14]
      refine newI_intro fun id hid => ?_
      simp -implicitDefEqProofs (maxSteps := 1000000) (disch := omega) only [↓xsP, ↓vc_seq, xsQ, xsT, xsR, xsD, ↓reduceIte, reduceCtorEq, eq_self, ne_eq, imp_self, forall_const, Nat.reduceEqDiff, Nat.reduceAdd, Nat.reduceSub, Nat.reduceMul, Nat.reduceLT, Nat.reduceLeDiff, Nat.reduceBEq, Nat.reduceDiv, Nat.reduceMod, Int.reduceToNat, Int.reduceNeg, Int.reduceAdd, Int.reduceSub, Int.reduceMul, Int.reduceEq, Int.reduceNe, Int.reduceLT, Int.reduceLE, Int.reduceGT, Int.reduceGE, h4, h12, h13, h14]
      have hi' : i < (callsP h).length := by omega
      have hnext : (okP h && ((callsP h).take (i + 1)).all fun c => decide (0 ≤ c.fin)) = ((okP h && ((callsP h).take i).all fun c => decide (0 ≤ c.fin)) && decide (0 ≤ ((callsP h).getD i default).fin)) := by
        rw [List.take_add_one, List.all_append, List.getElem?_eq_getElem hi', List.getD_eq_getElem?_getD, List.getElem?_eq_getElem hi']
        simp [Bool.and_assoc]
      refine gI_t (fun hb => ?_) (fun hb => ?_)
      · simp -implicitDefEqProofs (maxSteps := 1000000) (disch := omega) only [↓xsP, ↓vc_seq, xsQ, xsT, xsR, xsD, ↓reduceIte, reduceCtorEq, eq_self, ne_eq, imp_self, forall_const, Nat.reduceEqDiff, Nat.reduceAdd, Nat.reduceSub, Nat.reduceMul, Nat.reduceLT, Nat.reduceLeDiff, Nat.reduceBEq, Nat.reduceDiv, Nat.reduceMod, Int.reduceToNat, Int.reduceNeg, Int.reduceAdd, Int.reduceSub, Int.reduceMul, Int.reduceEq, Int.reduceNe, Int.reduceLT, Int.reduceLE, Int.reduceGT, Int.reduceGE, h4, h12, h13, h14, hb]
        refine ⟨(callsP h).length - (i + 1), M', by omega, le_new (Mem.le_refl _) hid, i + 1, by omega, rfl, ?_, by simp, rfl⟩
        rw [hnext, hb]
        simp
      · simp -implicitDefEqProofs (maxSteps := 1000000) (disch := omega) only [↓xsP, ↓vc_seq, xsQ, xsT, xsR, xsD, ↓reduceIte, reduceCtorEq, eq_self, ne_eq, imp_self, forall_const, Nat.reduceEqDiff, Nat.reduceAdd, Nat.reduceSub, Nat.reduceMul, Nat.reduceLT, Nat.reduceLeDiff, Nat.reduceBEq, Nat.reduceDiv, Nat.reduceMod, Int.reduceToNat, Int.reduceNeg, Int.reduceAdd, Int.reduceSub, Int.reduceMul, Int.reduceEq, Int.reduceNe, Int.reduceLT, Int.reduceLE, Int.reduceGT, Int.reduceGE, h4, h12, h13, h14, hb]
        refine ⟨(callsP h).length - (i + 1), M', by omega, le_new (Mem.le_refl _) hid, i + 1, by omega, rfl, ?_, by simp, rfl⟩
        rw [hnext, hb]
        simp
    · simp -implicitDefEqProofs (maxSteps := 1000000) (disch := omega) only [↓xsP, ↓vc_seq, xsQ, xsT, xsR, xsD, ↓reduceIte, reduceCtorEq, eq_self, ne_eq, imp_self, forall_const, Nat.reduceEqDiff, Nat.reduceAdd, Nat.reduceSub, Nat.reduceMul, Nat.reduceLT, Nat.reduceLeDiff, Nat.reduceBEq, Nat.reduceDiv, Nat.reduceMod, Int.reduceToNat, Int.reduceNeg, Int.reduceAdd, Int.reduceSub, Int.reduceMul, Int.reduceEq, Int.reduceNe, Int.reduceLT, Int.reduceLE, Int.reduceGT, Int.reduceGE, h4, h12, h13, h14]
      have hil : i = (callsP h).length := by omega
      refine fin_ok (Mem.le_refl _) ⟨?_, rfl⟩
      rw [hil, List.take_of_length_le (Nat.le_refl _)]
      rfl

noncomputable def soloP (h : List Evt) : Bool := okP h && bof (∀ j : Nat, 1 ≤ j → j < (callsP h).length → 0 ≤ ((callsP h).getD (j - 1) default).fin ∧ ((callsP h).getD (j - 1) default).fin < ((callsP h).getD j default).beg)
noncomputable def soloTo (h : List Evt) (i : Nat) : Bool := okP h && bof (∀ j : Nat, 1 ≤ j → j < i → 0 ≤ ((callsP h).getD (j - 1) default).fin ∧ ((callsP h).getD (j - 1) default).fin < ((callsP h).getD j default).beg)
theorem soloTo_zero (h : List Evt) : soloTo h 0 = okP h := by
  unfold soloTo
  rw [bof_true (fun j h1 h2 => by omega), Bool.and_true]
theorem soloTo_one (h : List Evt) : soloTo h 1 = okP h := by
  unfold soloTo
  rw [bof_true (fun j h1 h2 => by omega), Bool.and_true]
theorem soloTo_succ (h : List Evt) (i : Nat) (hi : 1 ≤ i) : soloTo h (i + 1) = (soloTo h i && (decide (0 ≤ ((callsP h).getD (i - 1) default).fin) && decide (((callsP h).getD (i - 1) default).fin < ((callsP h).getD i default).beg))) := by
  unfold soloTo
  rw [Bool.and_assoc]
  congr 1
  rw [Bool.eq_iff_iff, Bool.and_eq_true, Bool.and_eq_true, decide_eq_true_eq, decide_eq_true_eq, bof_iff, bof_iff]
  constructor
  · intro hh
    exact ⟨fun j h1 h2 => hh j h1 (by omega), hh i hi (by omega)⟩
  · rintro ⟨h1, h2⟩ j h3 h4
    by_cases e : j = i
    · subst e; exact h2
    · exact h1 j h3 (by omega)

theorem solo_spec (h : List Evt) (hs : Small h) (M : Mem) : XCalls Go.Proofs.Try.prog 36 [.l (.sl (h.map Evt.row))] M fun r M' => r = .l (.bool (soloP h)) ∧ M' = M := by
  refine xcalls_intro (rs := [.tmp 2]) Go.Proofs.Try.func36 rfl (by kernel_rfl) rfl rfl (by kernel_rfl) (by simp) ?_
  simp -implicitDefEqProofs (maxSteps := 1000000) (disch := omega) only [↓xsP, ↓vc_seq, xsQ, xsT, xsR, xsD, ↓reduceIte, reduceCtorEq, eq_self, ne_eq, imp_self, forall_const, Nat.reduceEqDiff, Nat.reduceAdd, Nat.reduceSub, Nat.reduceMul, Nat.reduceLT, Nat.reduceLeDiff, Nat.reduceBEq, Nat.reduceDiv, Nat.reduceMod, Int.reduceToNat, Int.reduceNeg, Int.reduceAdd, Int.reduceSub, Int.reduceMul, Int.reduceEq, Int.reduceNe, Int.reduceLT, Int.reduceLE, Int.reduceGT, Int.reduceGE]
  refine call_of (read_spec h hs _) ?_
  have hcl := callsP_len h
  have hs1 := hs.1
  simp -implicitDefEqProofs (maxSteps := 1000000) (disch := omega) only [↓xsP, ↓vc_seq, xsQ, xsT, xsR, xsD, ↓reduceIte, reduceCtorEq, eq_self, ne_eq, imp_self, forall_const, Nat.reduceEqDiff, Nat.reduceAdd, Nat.reduceSub, Nat.reduceMul, Nat.reduceLT, Nat.reduceLeDiff, Nat.reduceBEq, Nat.reduceDiv, Nat.reduceMod, Int.reduceToNat, Int.reduceNeg, Int.reduceAdd, Int.reduceSub, Int.reduceMul, Int.reduceEq, Int.reduceNe, Int.reduceLT, Int.reduceLE, Int.reduceGT, Int.reduceGE, readV_eq]
  refine loopI_of (xloop (by kernel_rfl) (fun k fr M' => ∃ i : Nat, i ≤ (callsP h).length ∧ k = (callsP h).length - i ∧ fr 3 = .l (.sl ((callsP h).map Cl.row)) ∧ fr 4 = .l (.bool (soloTo h i)) ∧ fr 12 = .l (.sl ((callsP h).map Cl.row)) ∧ fr 13 = .l (.int .i64 (callsP h).length) ∧ fr 14 = .l (.int .i64 i) ∧ M' = M) (callsP h).length ?_ ?_)
  · exact ⟨0, Nat.zero_le _, rfl, by simp -implicitDefEqProofs (maxSteps := 1000000) (disch := omega) only [↓xsP, ↓vc_seq, xsQ, xsT, xsR, xsD, ↓reduceIte, reduceCtorEq, eq_self, ne_eq, imp_self, forall_const, Nat.reduceEqDiff, Nat.reduceAdd, Nat.reduceSub, Nat.reduceMul, Nat.reduceLT, Nat.reduceLeDiff, Nat.reduceBEq, Nat.reduceDiv, Nat.reduceMod, Int.reduceToNat, Int.reduceNeg, Int.reduceAdd, Int.reduceSub, Int.reduceMul, Int.reduceEq, Int.reduceNe, Int.reduceLT, Int.reduceLE, Int.reduceGT, Int.reduceGE], by simp -implicitDefEqProofs (maxSteps := 1000000) (disch := omega) only [↓xsP, ↓vc_seq, xsQ, xsT, xsR, xsD, ↓reduceIte, reduceCtorEq, eq_self, ne_eq, imp_self, forall_const, Nat.reduceEqDiff, Nat.reduceAdd, Nat.reduceSub, Nat.reduceMul, Nat.reduceLT, Nat.reduceLeDiff, Nat.reduceBEq, Nat.reduceDiv, Nat.reduceMod, Int.reduceToNat, Int.reduceNeg, Int.reduceAdd, Int.reduceSub, Int.reduceMul, Int.reduceEq, Int.reduceNe, Int.reduceLT, Int.reduceLE, Int.reduceGT, Int.reduceGE, soloTo_zero], by simp -implicitDefEqProofs (maxSteps := 1000000) (disch := omega) only [↓xsP, ↓vc_seq, xsQ, xsT, xsR, xsD, ↓reduceIte, reduceCtorEq, eq_self, ne_eq, imp_self, forall_const, Nat.reduceEqDiff, Nat.reduceAdd, Nat.reduceSub, Nat.reduceMul, Nat.reduceLT, Nat.reduceLeDiff, Nat.reduceBEq, Nat.reduceDiv, Nat.reduceMod, Int.reduceToNat, Int.reduceNeg, Int.reduceAdd, Int.reduceSub, Int.reduceMul, Int.reduceEq, Int.reduceNe, Int.reduceLT, Int.reduceLE, Int.reduceGT, Int.reduceGE], by simp -implicitDefEqProofs (maxSteps := 1000000) (disch := omega) only [↓xsP, ↓vc_seq, xsQ, xsT, xsR, xsD, ↓reduceIte, reduceCtorEq, eq_self, ne_eq, imp_self, forall_const, Nat.reduceEqDiff, Nat.reduceAdd, Nat.reduceSub, Nat.reduceMul, Nat.reduceLT, Nat.reduceLeDiff, Nat.reduceBEq, Nat.reduceDiv, Nat.reduceMod, Int.reduceToNat, Int.reduceNeg, Int.reduceAdd, Int.reduceSub, Int.reduceMul, Int.reduceEq, Int.reduceNe, Int.reduceLT, Int.reduceLE, Int.reduceGT, Int.reduceGE], by simp -implicitDefEqProofs (maxSteps := 1000000) (disch := omega) only [↓xsP, ↓vc_seq, xsQ, xsT, xsR, xsD, ↓reduceIte, reduceCtorEq, eq_self, ne_eq, imp_self, forall_const, Nat.reduceEqDiff, Nat.reduceAdd, Nat.reduceSub, Nat.reduceMul, Nat.reduceLT, Nat.reduceLeDiff, Nat.reduceBEq, Nat.reduceDiv, Nat.reduceMod, Int.reduceToNat, Int.reduceNeg, Int.reduceAdd, Int.reduceSub, Int.reduceMul, Int.reduceEq, Int.reduceNe, Int.reduceLT, Int.reduceLE, Int.reduceGT, Int.reduceGE, Int.cast_ofNat_Int], rfl⟩
  · rintro k fr M' ⟨i, hi, rfl, h3, h4, h12, h13, h14, rfl⟩
    simp -implicitDefEqProofs (maxSteps := 1000000) (disch := omega) only [↓xsP, ↓vc_seq, xsQ, xsT, xsR, xsD, ↓reduceIte, reduceCtorEq, eq_self, ne_eq, imp_self, forall_const, Nat.reduceEqDiff, Nat.reduceAdd, Nat.reduceSub, Nat.reduceMul, Nat.reduceLT, Nat.reduceLeDiff, Nat.reduceBEq, Nat.reduceDiv, Nat.reduceMod, Int.reduceToNat, Int.reduceNeg, Int.reduceAdd, Int.reduceSub, Int.reduceMul, Int.reduceEq, Int.reduceNe, Int.reduceLT, Int.reduceLE, Int.reduceGT, Int.reduceGE, h3, h4, h12, h13, h14]
    refine condI_prop (fun hlt => ?_) (fun hlt => ?_)
    · simp -implicitDefEqProofs (maxSteps := 1000000) (disch := omega) only [↓xsP, ↓vc_seq, xsQ, xsT, xsR, xsD, ↓reduceIte, reduceCtorEq, eq_self, ne_eq, imp_self, forall_const, Nat.reduceEqDiff, Nat.reduceAdd, Nat.reduceSub, Nat.reduceMul, Nat.reduceLT, Nat.reduceLeDiff, Nat.reduceBEq, Nat.reduceDiv, Nat.reduceMod, Int.reduceToNat, Int.reduceNeg, Int.reduceAdd, Int.reduceSub, Int.reduceMul, Int.reduceEq, Int.reduceNe, Int.reduceLT, Int.reduceLE, Int.reduceGT, Int.reduceGE, h3, h4, h12, h13, h14]
      refine newI_intro fun id hid => ?_
      simp -implicitDefEqProofs (maxSteps := 1000000) (disch := omega) only [↓xsP, ↓vc_seq, xsQ, xsT, xsR, xsD, ↓reduceIte, reduceCtorEq, eq_self, ne_eq, imp_self, forall_const, Nat.reduceEqDiff, Nat.reduceAdd, Nat.reduceSub, Nat.reduceMul, Nat.reduceLT, Nat.reduceLeDiff, Nat.reduceBEq, Nat.reduceDiv, Nat.reduceMod, Int.reduceToNat, Int.reduceNeg, Int.reduceAdd, Int.reduceSub, Int.reduceMul, Int.reduceEq, Int.reduceNe, Int.reduceLT, Int.reduceLE, Int.reduceGT, Int.reduceGE, h3, h4, h12, h13, h14]
      refine xquiet (by kernel_rfl) (by kernel_rfl) (by kernel_rfl) ?_
      simp -implicitDefEqProofs (maxSteps := 1000000) (disch := omega) only [↓xsP, ↓vc_seq, xsQ, xsT, xsR, xsD, ↓reduceIte, reduceCtorEq, eq_self, ne_eq, imp_self, forall_const, Nat.reduceEqDiff, Nat.reduceAdd, Nat.reduceSub, Nat.reduceMul, Nat.reduceLT, Nat.reduceLeDiff, Nat.reduceBEq, Nat.reduceDiv, Nat.reduceMod, Int.reduceToNat, Int.reduceNeg, Int.reduceAdd, Int.reduceSub, Int.reduceMul, Int.reduceEq, Int.reduceNe, Int.reduceLT, Int.reduceLE, Int.reduceGT, Int.reduceGE, h3, h4, h12, h13, h14]
      refine gI_t (fun hb => ?_) (fun hb => ?_)
      · simp -implicitDefEqProofs (maxSteps := 1000000) (disch := omega) only [↓xsP, ↓vc_seq, xsQ, xsT, xsR, xsD, ↓reduceIte, reduceCtorEq, eq_self, ne_eq, imp_self, forall_const, Nat.reduceEqDiff, Nat.reduceAdd, Nat.reduceSub, Nat.reduceMul, Nat.reduceLT, Nat.reduceLeDiff, Nat.reduceBEq, Nat.reduceDiv, Nat.reduceMod, Int.reduceToNat, Int.reduceNeg, Int.reduceAdd, Int.reduceSub, Int.reduceMul, Int.reduceEq, Int.reduceNe, Int.reduceLT, Int.reduceLE, Int.reduceGT, Int.reduceGE, h3, h4, h12, h13, h14, hb]
        refine gI_prop_f (fun h0 => ?_) (fun h0 => ?_)
        · simp -implicitDefEqProofs (maxSteps := 1000000) (disch := omega) only [↓xsP, ↓vc_seq, xsQ, xsT, xsR, xsD, ↓reduceIte, reduceCtorEq, eq_self, ne_eq, imp_self, forall_const, Nat.reduceEqDiff, Nat.reduceAdd, Nat.reduceSub, Nat.reduceMul, Nat.reduceLT, Nat.reduceLeDiff, Nat.reduceBEq, Nat.reduceDiv, Nat.reduceMod, Int.reduceToNat, Int.reduceNeg, Int.reduceAdd, Int.reduceSub, Int.reduceMul, Int.reduceEq, Int.reduceNe, Int.reduceLT, Int.reduceLE, Int.reduceGT, Int.reduceGE, h3, h4, h12, h13, h14, hb, h0]
          refine dcallI_of (before_spec ((callsP h).getD (i - 1) default) ((callsP h).getD i default) _) ?_
          simp -implicitDefEqProofs (maxSteps := 1000000) (disch := omega) only [↓xsP, ↓vc_seq, xsQ, xsT, xsR, xsD, ↓reduceIte, reduceCtorEq, eq_self, ne_eq, imp_self, forall_const, Nat.reduceEqDiff, Nat.reduceAdd, Nat.reduceSub, Nat.reduceMul, Nat.reduceLT, Nat.reduceLeDiff, Nat.reduceBEq, Nat.reduceDiv, Nat.reduceMod, Int.reduceToNat, Int.reduceNeg, Int.reduceAdd, Int.reduceSub, Int.reduceMul, Int.reduceEq, Int.reduceNe, Int.reduceLT, Int.reduceLE, Int.reduceGT, Int.reduceGE, h3, h4, h12, h13, h14, hb, h0]
          refine ⟨(callsP h).length - (i + 1), M', by omega, le_new (Mem.le_refl _) hid, i + 1, by omega, rfl, ?_, by simp, rfl⟩
          rw [soloTo_succ _ _ (by omega), hb]
          simp
        · simp -implicitDefEqProofs (maxSteps := 1000000) (disch := omega) only [↓xsP, ↓vc_seq, xsQ, xsT, xsR, xsD, ↓reduceIte, reduceCtorEq, eq_self, ne_eq, imp_self, forall_const, Nat.reduceEqDiff, Nat.reduceAdd, Nat.reduceSub, Nat.reduceMul, Nat.reduceLT, Nat.reduceLeDiff, Nat.reduceBEq, Nat.reduceDiv, Nat.reduceMod, Int.reduceToNat, Int.reduceNeg, Int.reduceAdd, Int.reduceSub, Int.reduceMul, Int.reduceEq, Int.reduceNe, Int.reduceLT, Int.reduceLE, Int.reduceGT, Int.reduceGE, h3, h4, h12, h13, h14, hb, h0]
          have hi0 : i = 0 := by omega
          subst hi0
          refine ⟨(callsP h).length - (0 + 1), M', by omega, le_new (Mem.le_refl _) hid, 0 + 1, by omega, rfl, ?_, by simp, rfl⟩
          rw [soloTo_one, ← soloTo_zero, hb]
      · simp -implicitDefEqProofs (maxSteps := 1000000) (disch := omega) only [↓xsP, ↓vc_seq, xsQ, xsT, xsR, xsD, ↓reduceIte, reduceCtorEq, eq_self, ne_eq, imp_self, forall_const, Nat.reduceEqDiff, Nat.reduceAdd, Nat.reduceSub, Nat.reduceMul, Nat.reduceLT, Nat.reduceLeDiff, Nat.reduceBEq, Nat.reduceDiv, Nat.reduceMod, Int.reduceToNat, Int.reduceNeg, Int.reduceAdd, Int.reduceSub, Int.reduceMul, Int.reduceEq, Int.reduceNe, Int.reduceLT, Int.reduceLE, Int.reduceGT, Int.reduceGE, h3, h4, h12, h13, h14, hb]
        refine ⟨(callsP h).length - (i + 1), M', by omega, le_new (Mem.le_refl _) hid, i + 1, by omega, rfl, ?_, by simp, rfl⟩
        by_cases hi0 : i = 0
        · subst hi0
          rw [soloTo_zero] at hb
          rw [soloTo_one, hb]
        · rw [soloTo_succ _ _ (by omega), hb]
          simp
    · simp -implicitDefEqProofs (maxSteps := 1000000) (disch := omega) only [↓xsP, ↓vc_seq, xsQ, xsT, xsR, xsD, ↓reduceIte, reduceCtorEq, eq_self, ne_eq, imp_self, forall_const, Nat.reduceEqDiff, Nat.reduceAdd, Nat.reduceSub, Nat.reduceMul, Nat.reduceLT, Nat.reduceLeDiff, Nat.reduceBEq, Nat.reduceDiv, Nat.reduceMod, Int.reduceToNat, Int.reduceNeg, Int.reduceAdd, Int.reduceSub, Int.reduceMul, Int.reduceEq, Int.reduceNe, Int.reduceLT, Int.reduceLE, Int.reduceGT, Int.reduceGE, h3, h4, h12, h13, h14]
      have hil : i = (callsP h).length := by omega
      refine fin_ok (Mem.le_refl _) ⟨?_, rfl⟩
      rw [hil]
      rfl
end Go.X

/- What layer 18's awake does: it says yes. -/

set_option linter.unusedVariables false
set_option linter.unusedSimpArgs false
set_option maxHeartbeats 20000000
set_option maxRecDepth 100000
namespace Go.X
open Go.Proofs.Try (prog)

def hist0 : List Evt := [⟨1, false, ⟨4, 0, 0, 0⟩, ans0⟩, ⟨0, false, ⟨7, 0, 0, 0⟩, ans0⟩, ⟨1, true, ⟨4, 0, 0, 0⟩, ans0⟩]
theorem readP_hist0 : readP hist0 = some [⟨1, 0, 2, ⟨4, 0, 0, 0⟩, ans0⟩, ⟨0, 1, -1, ⟨7, 0, 0, 0⟩, ans0⟩] := by
  simp [readP, hist0, rrun, rstep, iget, iput, idel, mayOpB, List.getD]
theorem callsP_hist0 : callsP hist0 = [⟨1, 0, 2, ⟨4, 0, 0, 0⟩, ans0⟩, ⟨0, 1, -1, ⟨7, 0, 0, 0⟩, ans0⟩] := by
  rw [callsP, readP_hist0]; rfl
def c0 : Cl := ⟨1, 0, 2, ⟨4, 0, 0, 0⟩, ans0⟩
def c1 : Cl := ⟨0, 1, -1, ⟨7, 0, 0, 0⟩, ans0⟩
theorem len0 : (callsP hist0).length = 2 := by rw [callsP_hist0]; rfl
theorem get0 : (callsP hist0).getD 0 default = c0 := by rw [callsP_hist0]; rfl
theorem get1 : (callsP hist0).getD 1 default = c1 := by rw [callsP_hist0]; rfl
theorem c0_fin : c0.fin = 2 := rfl
theorem c1_fin : c1.fin = -1 := rfl
theorem c0_before : (decide (0 ≤ c0.fin) && decide (c0.fin < c1.beg)) = false := by decide
theorem okP_hist0 : okP hist0 = true := by rw [okP, readP_hist0]; rfl
theorem overP_hist0 : overP hist0 = false := by rw [overP, okP_hist0, callsP_hist0]; decide
theorem soloP_hist0 : soloP hist0 = false := by
  rw [soloP, okP_hist0, callsP_hist0, Bool.true_and]
  refine bof_false fun hh => ?_
  have := hh 1 (by decide) (by decide)
  simp at this
theorem small0 : Small hist0 := by
  refine ⟨by decide, fun x hx => ?_⟩
  simp only [hist0, List.mem_cons, List.not_mem_nil, or_false] at hx
  rcases hx with rfl | rfl | rfl <;> decide
end Go.X

/- Plain laws of histories that may be. -/


set_option linter.unusedVariables false
set_option linter.unusedSimpArgs false
set_option maxRecDepth 100000
namespace Go.X

theorem okP_inv {h : List Evt} (hok : okP h = true) : ∃ ms, rrun h 0 ([], []) = some (callsP h, ms) ∧ HInv h h.length (callsP h, ms) := by
  unfold okP at hok
  obtain ⟨out, ho⟩ := Option.isSome_iff_exists.1 hok
  have hc : callsP h = out := by rw [callsP, ho]; rfl
  rw [hc]
  exact readP_inv ho
end Go.X

/- Plain laws of histories: what the reference lets through may be; a beginning of a history. -/


set_option linter.unusedVariables false
set_option linter.unusedSimpArgs false
set_option maxRecDepth 100000
namespace Go.X

/-- The reference's state and that of past.read. -/
structure MInv (m : List Bool × List Opn) (s : List Cl × List (Int × Int)) : Prop where
  l1 : m.1.length = 6
  l2 : m.2.length = 6
  on : ∀ t : Nat, t < 6 → m.1.getD t false = (iget s.2 (t : Int)).isSome
  op : ∀ (t k : Nat), t < 6 → iget s.2 (t : Int) = some ((k : Int) + 1) → (s.1.getD k default).op = m.2.getD t default

theorem getD_set {α : Type} (l : List α) (d : α) (j k : Nat) (x : α) (hj : j < l.length) : (l.set j x).getD k d = if k = j then x else l.getD k d := by
  simp only [List.getD_eq_getElem?_getD, List.getElem?_set]
  by_cases h : j = k
  · subst h
    simp [hj]
  · simp [h, Ne.symm h]

theorem MInv.step {h : List Evt} {i : Nat} {x : Evt} {m m' : List Bool × List Opn} {s : List Cl × List (Int × Int)} (I : HInv h i s) (J : MInv m s) (hm : mstep x m = some m') : ∃ s', rstep i x s = some s' ∧ MInv m' s' := by
  obtain ⟨out, ms⟩ := s
  obtain ⟨on, ops⟩ := m
  have J1 := J.l1; have J2 := J.l2; have J3 := J.on; have J4 := J.op; have I5 := I.map
  simp only at J1 J2 J3 J4 I5
  simp only [mstep] at hm
  split at hm
  · cases hm
  · rename_i hw
    simp only [not_or, ne_eq, Decidable.not_not] at hw
    obtain ⟨w0, w1, hon⟩ := hw
    split at hm
    · cases hm
    · rename_i hc
      simp only [Option.some.injEq] at hm
      subst hm
      obtain ⟨t, ht⟩ := Int.eq_ofNat_of_zero_le (show 0 ≤ x.who by omega)
      have ht6 : t < 6 := by omega
      have htt : x.who.toNat = t := by omega
      rw [htt] at hon hc ⊢
      rw [J3 t ht6] at hon
      simp only [rstep]
      rw [if_neg (by omega)]
      cases hret : x.ret with
      | false =>
        rw [hret] at hon hc
        have hnone : iget ms (t : Int) = none := by
          cases hg : iget ms (t : Int) with
          | none => rfl
          | some v => rw [hg] at hon; simp at hon
        rw [if_pos rfl, ht, hnone]
        rw [if_neg (by
          simp only [Option.getD_none]
          rintro (h1 | h1)
          · omega
          · exact hc (.inl ⟨rfl, h1⟩))]
        refine ⟨_, rfl, by simpa using J1, by simpa using J2, fun u hu => ?_, fun u k hu hk => ?_⟩
        · simp only [getD_set _ _ _ _ _ (by omega : t < on.length), iget_put]
          by_cases e : u = t
          · subst e; simp
          · rw [if_neg e, if_neg (by omega)]
            exact J3 u hu
        · simp only [getD_set _ _ _ _ _ (by omega : t < ops.length)]
          rw [iget_put] at hk
          by_cases e : u = t
          · subst e
            rw [if_pos rfl, Option.some.injEq] at hk
            have : k = out.length := by omega
            subst this
            simp [gd_app]
          · rw [if_neg (by omega)] at hk
            rw [if_neg e]
            obtain ⟨k', e', hk', _⟩ := I5 _ _ hk
            have : k = k' := by omega
            subst this
            rw [gd_app, if_pos hk']
            exact J4 u k hu hk
      | true =>
        rw [hret] at hon hc
        obtain ⟨v, hv⟩ : ∃ v, iget ms (t : Int) = some v := by
          cases hg : iget ms (t : Int) with
          | none => rw [hg] at hon; simp at hon
          | some v => exact ⟨v, rfl⟩
        obtain ⟨k0, rfl, hk0, hwho, hfin⟩ := I5 _ _ hv
        have hop := J4 t k0 ht6 hv
        have e1 : ((k0 : Int) + 1 - 1).toNat = k0 := by omega
        rw [if_neg (by simp), ht, hv]
        simp only [Option.getD_some, e1]
        rw [if_neg (by
          rintro (h1 | h1)
          · omega
          · exact hc (.inr ⟨rfl, fun e => h1 (by rw [hop, e])⟩))]
        refine ⟨_, rfl, by simpa using J1, by simpa using J2, fun u hu => ?_, fun u k hu hk => ?_⟩
        · simp only [getD_set _ _ _ _ _ (by omega : t < on.length), iget_del I.nod]
          by_cases e : u = t
          · subst e; simp
          · rw [if_neg e, if_neg (by omega)]
            exact J3 u hu
        · simp only at hk
          rw [iget_del I.nod] at hk
          by_cases e : u = t
          · subst e
            rw [if_pos rfl] at hk
            cases hk
          · rw [if_neg (by omega)] at hk
            simp only [getD_set _ _ _ _ _ (by omega : t < ops.length)]
            rw [if_neg e, gd_set _ _ _ _ hk0]
            have hkk : k ≠ k0 := fun e' => by
              subst e'
              obtain ⟨k', e2, _, hw2, _⟩ := I5 _ _ hk
              have : k' = k := by omega
              subst this
              rw [hwho] at hw2
              omega
            rw [if_neg hkk]
            exact J4 u k hu hk

theorem mrun_rrun {h : List Evt} {l : List Evt} : ∀ (i : Nat) (m m' : List Bool × List Opn) (s : List Cl × List (Int × Int)), h.drop i = l → i ≤ h.length → HInv h i s → MInv m s → mrun l m = some m' → ∃ s', rrun l i s = some s' ∧ MInv m' s' := by
  induction l with
  | nil =>
    intro i m m' s hd hi I J hm
    simp only [mrun, Option.some.injEq] at hm
    subst hm
    exact ⟨s, rfl, J⟩
  | cons x l ih =>
    intro i m m' s hd hi I J hm
    have hi' : i < h.length := by
      rcases Nat.lt_or_ge i h.length with h' | h'
      · exact h'
      · rw [List.drop_of_length_le h'] at hd; cases hd
    have hdrop := List.drop_eq_getElem_cons hi'
    rw [hd] at hdrop
    obtain ⟨hx, hl⟩ := List.cons.inj hdrop
    have hg : h.getD i default = x := by simp [List.getD_eq_getElem?_getD, hi', ← hx]
    simp only [mrun] at hm
    cases hst : mstep x m with
    | none => rw [hst] at hm; cases hm
    | some m1 =>
      rw [hst] at hm
      obtain ⟨s1, h1, J1⟩ := MInv.step I J hst
      obtain ⟨s2, h2, J2⟩ := ih (i + 1) m1 m' s1 hl.symm (by omega) (I.step hi' (by rw [hg]; exact h1)) J1 hm
      exact ⟨s2, by simp only [rrun, h1, Option.bind_some]; exact h2, J2⟩

theorem minv0 : MInv (List.replicate 6 false, List.replicate 6 ⟨0, 0, 0, 0⟩) ([], []) where
  l1 := rfl
  l2 := rfl
  on t ht := by
    match t, ht with
    | 0, _ => rfl
    | 1, _ => rfl
    | 2, _ => rfl
    | 3, _ => rfl
    | 4, _ => rfl
    | 5, _ => rfl
  op t k ht hk := by simp [iget] at hk
theorem okP_of_mayP {h : List Evt} (hm : mayP h = true) : okP h = true := by
  unfold mayP at hm
  obtain ⟨m', hm'⟩ := Option.isSome_iff_exists.1 hm
  obtain ⟨s', h1, _⟩ := mrun_rrun (h := h) 0 _ _ _ rfl (Nat.zero_le _) (HInv.zero h) minv0 hm'
  rw [List.drop_zero] at h1
  simp [okP, readP, h1]
theorem mrun_app (l r : List Evt) : ∀ m, mrun (l ++ r) m = (mrun l m).bind (mrun r) := by
  induction l with
  | nil => intro m; rfl
  | cons x l ih =>
    intro m
    simp only [List.cons_append, mrun]
    cases mstep x m with
    | none => rfl
    | some m1 => simp only [Option.bind_some]; exact ih m1
theorem mayP_take {h : List Evt} (k : Nat) (hm : mayP h = true) : mayP (h.take k) = true := by
  unfold mayP at hm ⊢
  rw [← List.take_append_drop k h, mrun_app] at hm
  cases hr : mrun (h.take k) (List.replicate 6 false, List.replicate 6 ⟨0, 0, 0, 0⟩) with
  | none => rw [hr] at hm; cases hm
  | some m => rfl

/-- From one moment on. -/
structure Ext (k : Nat) (a b : List Cl) : Prop where
  len : a.length ≤ b.length
  beg : ∀ i, i < a.length → (b.getD i default).beg = (a.getD i default).beg
  op : ∀ i, i < a.length → (b.getD i default).op = (a.getD i default).op
  fin : ∀ i, i < a.length → (b.getD i default).fin = (a.getD i default).fin ∨ ((a.getD i default).fin = -1 ∧ (k : Int) ≤ (b.getD i default).fin)
theorem Ext.refl (k : Nat) (a : List Cl) : Ext k a a := ⟨Nat.le_refl _, fun _ _ => rfl, fun _ _ => rfl, fun _ _ => .inl rfl⟩
theorem Ext.trans {k : Nat} {a b c : List Cl} (h : Ext k a b) (h' : Ext k b c) : Ext k a c where
  len := Nat.le_trans h.len h'.len
  beg i hi := (h'.beg i (Nat.lt_of_lt_of_le hi h.len)).trans (h.beg i hi)
  op i hi := (h'.op i (Nat.lt_of_lt_of_le hi h.len)).trans (h.op i hi)
  fin i hi := by
    rcases h.fin i hi with h1 | ⟨h1, h2⟩ <;> rcases h'.fin i (Nat.lt_of_lt_of_le hi h.len) with h3 | ⟨h3, h4⟩
    · exact .inl (h3.trans h1)
    · exact .inr ⟨by rw [← h1]; exact h3, h4⟩
    · exact .inr ⟨h1, by rw [h3]; exact h2⟩
    · exact .inr ⟨h1, h4⟩
theorem ext_step {h : List Evt} {k i : Nat} {s s' : List Cl × List (Int × Int)} (hk : k ≤ i) (I : HInv h i s) (hs : rstep i (h.getD i default) s = some s') : Ext k s.1 s'.1 := by
  obtain ⟨out, ms⟩ := s
  obtain ⟨_, _, hc⟩ := rstep_cases I hs
  rcases hc with ⟨_, _, _, _, rfl⟩ | ⟨_, k0, hk0, _, _, hfin, _, rfl⟩
  · refine ⟨by simp, fun j hj => ?_, fun j hj => ?_, fun j hj => .inl ?_⟩ <;> simp only [gd_app, if_pos hj]
  · refine ⟨by simp, fun j hj => ?_, fun j hj => ?_, fun j hj => ?_⟩ <;> simp only [gd_set _ _ _ _ hk0]
    · split
      · rename_i e; subst e; rfl
      · rfl
    · split
      · rename_i e; subst e; rfl
      · rfl
    · split
      · rename_i e; subst e; exact .inr ⟨hfin, by simpa using hk⟩
      · exact .inl rfl
theorem ext_run {h : List Evt} {k : Nat} {l : List Evt} : ∀ (i : Nat) (s s' : List Cl × List (Int × Int)), h.drop i = l → i ≤ h.length → k ≤ i → HInv h i s → rrun l i s = some s' → Ext k s.1 s'.1 := by
  induction l with
  | nil =>
    intro i s s' hd hi hk I hm
    simp only [rrun, Option.some.injEq] at hm
    subst hm
    exact Ext.refl _ _
  | cons x l ih =>
    intro i s s' hd hi hk I hm
    have hi' : i < h.length := by
      rcases Nat.lt_or_ge i h.length with h' | h'
      · exact h'
      · rw [List.drop_of_length_le h'] at hd; cases hd
    have hdrop := List.drop_eq_getElem_cons hi'
    rw [hd] at hdrop
    obtain ⟨hx, hl⟩ := List.cons.inj hdrop
    have hg : h.getD i default = x := by simp [List.getD_eq_getElem?_getD, hi', ← hx]
    simp only [rrun] at hm
    cases hst : rstep i x s with
    | none => rw [hst] at hm; cases hm
    | some s1 =>
      rw [hst] at hm
      exact (ext_step hk I (by rw [hg]; exact hst)).trans (ih (i + 1) s1 s' hl.symm (by omega) (by omega) (I.step hi' (by rw [hg]; exact hst)) hm)

/-- A beginning of a history that may be. -/
theorem cut_ext {h : List Evt} (k : Nat) (hk : k ≤ h.length) (hok : okP h = true) (hok' : okP (h.take k) = true) : Ext k (callsP (h.take k)) (callsP h) ∧ ∀ i, i < (callsP (h.take k)).length → ((callsP (h.take k)).getD i default).beg < (k : Int) := by
  obtain ⟨ms, hr, I⟩ := okP_inv hok
  obtain ⟨ms', hr', I'⟩ := okP_inv hok'
  have hl : (h.take k).length = k := by simp; omega
  have hsplit : rrun h 0 ([], []) = rrun (h.drop k) k (callsP (h.take k), ms') := by
    conv => lhs; rw [← List.take_append_drop k h]
    rw [rrun_app, hr', hl, Option.bind_some, Nat.zero_add]
  rw [hsplit] at hr
  have I2 : HInv h k (callsP (h.take k), ms') := by
    have hpre : ∀ j, j < k → (h.take k).getD j default = h.getD j default := fun j hj => by
      simp [List.getD_eq_getElem?_getD, List.getElem?_take, hj]
    have I1 := I'.beg; have I3 := I'.fin
    rw [hl] at I1 I3
    exact {
      nod := I'.nod
      beg := fun j hj => by
        obtain ⟨b, h1, h2, h3, h4, h5⟩ := I1 j hj
        rw [hpre b h1] at h3 h4 h5
        exact ⟨b, h1, h2, h3, h4, h5⟩
      fin := fun j hj => by
        rcases I3 j hj with h1 | ⟨f, h1, h2, h3, h4⟩
        · exact .inl h1
        · rw [hpre f h3] at h4
          exact .inr ⟨f, h1, h2, h3, h4⟩
      rise := I'.rise
      opn := I'.opn
      map := I'.map
      seq := I'.seq
      ne := fun h0 => I'.ne (by omega)
      who := I'.who }
  refine ⟨ext_run (h := h) k _ _ rfl hk (Nat.le_refl _) I2 hr, fun i hi => ?_⟩
  obtain ⟨b, h1, h2, _⟩ := I2.beg i hi
  simp only at h2
  omega
theorem cut_solo {h : List Evt} (k : Nat) (hk : k ≤ h.length) (hok : okP h = true) (hok' : okP (h.take k) = true) (hs : soloP h = true) : soloP (h.take k) = true := by
  obtain ⟨E, hb⟩ := cut_ext k hk hok hok'
  unfold soloP at hs ⊢
  rw [hok, Bool.true_and] at hs
  rw [hok', Bool.true_and]
  have hs := bof_iff.1 hs
  refine bof_true fun j h1 h2 => ?_
  have h3 := hs j h1 (by have := E.len; omega)
  have h4 := E.beg j h2
  have h5 := hb j h2
  rcases E.fin (j - 1) (by omega) with h6 | ⟨h6, h7⟩
  · rw [← h6, ← h4]; exact h3
  · omega
end Go.X

/- What leaf's small functions do: Find, IndexFunc, Clone. -/


set_option linter.unusedVariables false
set_option linter.unusedSimpArgs false
set_option maxHeartbeats 20000000
set_option maxRecDepth 100000
namespace Go.X
open Go.Proofs.Try (prog)

/-- What may be said when a call is over, once the ghost has been turned. -/
theorem XCalls.fin {P : Program} {f : FuncId} {args : List AV} {M : Mem} {K K' : AV → Mem → Prop} (h : XCalls P f args M K) (hk : ∀ v M', K v M' → XFin P v M' K') : XCalls P f args M K' := by
  refine ⟨h.1, fun g w vs hP hA hR => ?_⟩
  refine (h.2 g w vs hP hA hR).mono ?_
  rintro e w' ⟨rv, v, g', M', rfl, hK, hev, hc, hR'⟩
  obtain ⟨g2, v', M2, h1, h2, h3, h4⟩ := hk v M' hK g' w' rv (hev.P.trans hP) hc hR'
  exact ⟨rv, v', g2, M2, rfl, h1, hev.trans h2, h3, h4⟩

/-- A slice of pairs, kept or of a live block. -/
def SrcIs (M : Mem) (s : Lf) (l : List Pr) : Prop := s = .sl (l.map Pr.row) ∨ ∃ id keep, s = .ms id 0 l.length ∧ M id = some (.cells 26 (l.map Pr.row) keep)
theorem SrcIs.le {M M' : Mem} {s : Lf} {l : List Pr} (h : SrcIs M s l) (hle : M.le M') : SrcIs M' s l := by
  rcases h with h | ⟨id, keep, h, h2⟩
  · exact .inl h
  · exact .inr ⟨id, keep, h, hle _ _ h2⟩

theorem findClo_spec (p : Pr) (id : Nat) (k : Int) (M : Mem) {keep : Nat} (hM : M id = some (.cells 3 [[.int .i64 k]] keep)) :
    XCalls Go.Proofs.Try.prog 71 [.agg p.row, .l (.ptr id 0 0)] M fun r M' => r = .l (.bool (decide (p.key = k))) ∧ M' = M := by
  refine xcalls_intro (rs := [.tmp 3]) Go.Proofs.Try.func71 rfl (by kernel_rfl) rfl rfl (by kernel_rfl) (by simp) ?_
  simp -implicitDefEqProofs (maxSteps := 1000000) (disch := omega) only [↓xsP, ↓vc_seq, xsQ, xsT, xsR, xsD, ↓reduceIte, reduceCtorEq, eq_self, ne_eq, imp_self, forall_const, Nat.reduceEqDiff, Nat.reduceAdd, Nat.reduceSub, Nat.reduceMul, Nat.reduceLT, Nat.reduceLeDiff, Nat.reduceBEq, Nat.reduceDiv, Nat.reduceMod, Int.reduceToNat, Int.reduceNeg, Int.reduceAdd, Int.reduceSub, Int.reduceMul, Int.reduceEq, Int.reduceNe, Int.reduceLT, Int.reduceLE, Int.reduceGT, Int.reduceGE]
  refine newI_intro fun id2 hid2 => ?_
  have hlt : id < id2 := lt_of_bnd hid2 hM
  simp -implicitDefEqProofs (maxSteps := 1000000) (disch := omega) only [↓xsP, ↓vc_seq, xsQ, xsT, xsR, xsD, ↓reduceIte, reduceCtorEq, eq_self, ne_eq, imp_self, forall_const, Nat.reduceEqDiff, Nat.reduceAdd, Nat.reduceSub, Nat.reduceMul, Nat.reduceLT, Nat.reduceLeDiff, Nat.reduceBEq, Nat.reduceDiv, Nat.reduceMod, Int.reduceToNat, Int.reduceNeg, Int.reduceAdd, Int.reduceSub, Int.reduceMul, Int.reduceEq, Int.reduceNe, Int.reduceLT, Int.reduceLE, Int.reduceGT, Int.reduceGE, hM]
  exact fin_ok (le_new (Mem.le_refl _) hid2) ⟨rfl, rfl⟩

theorem withinClo_spec (p : Pr) (id id' : Nat) (lo hi : Int) (M : Mem) {keep keep' : Nat} (hM : M id = some (.cells 3 [[.int .i64 lo]] keep)) (hM' : M id' = some (.cells 3 [[.int .i64 hi]] keep')) :
    XCalls Go.Proofs.Try.prog 66 [.agg p.row, .l (.ptr id 0 0), .l (.ptr id' 0 0)] M fun r M' => r = .l (.bool (decide (p.key < lo) || decide (p.key > hi))) ∧ M' = M := by
  refine xcalls_intro (rs := [.tmp 4]) Go.Proofs.Try.func66 rfl (by kernel_rfl) rfl rfl (by kernel_rfl) (by simp) ?_
  simp -implicitDefEqProofs (maxSteps := 1000000) (disch := omega) only [↓xsP, ↓vc_seq, xsQ, xsT, xsR, xsD, ↓reduceIte, reduceCtorEq, eq_self, ne_eq, imp_self, forall_const, Nat.reduceEqDiff, Nat.reduceAdd, Nat.reduceSub, Nat.reduceMul, Nat.reduceLT, Nat.reduceLeDiff, Nat.reduceBEq, Nat.reduceDiv, Nat.reduceMod, Int.reduceToNat, Int.reduceNeg, Int.reduceAdd, Int.reduceSub, Int.reduceMul, Int.reduceEq, Int.reduceNe, Int.reduceLT, Int.reduceLE, Int.reduceGT, Int.reduceGE]
  refine newI_intro fun id2 hid2 => ?_
  have hlt : id < id2 := lt_of_bnd hid2 hM
  have hlt' : id' < id2 := lt_of_bnd hid2 hM'
  simp -implicitDefEqProofs (maxSteps := 1000000) (disch := omega) only [↓xsP, ↓vc_seq, xsQ, xsT, xsR, xsD, ↓reduceIte, reduceCtorEq, eq_self, ne_eq, imp_self, forall_const, Nat.reduceEqDiff, Nat.reduceAdd, Nat.reduceSub, Nat.reduceMul, Nat.reduceLT, Nat.reduceLeDiff, Nat.reduceBEq, Nat.reduceDiv, Nat.reduceMod, Int.reduceToNat, Int.reduceNeg, Int.reduceAdd, Int.reduceSub, Int.reduceMul, Int.reduceEq, Int.reduceNe, Int.reduceLT, Int.reduceLE, Int.reduceGT, Int.reduceGE, hM, hM']
  refine gI_prop_f (fun h => ?_) (fun h => ?_)
  · simp -implicitDefEqProofs (maxSteps := 1000000) (disch := omega) only [↓xsP, ↓vc_seq, xsQ, xsT, xsR, xsD, ↓reduceIte, reduceCtorEq, eq_self, ne_eq, imp_self, forall_const, Nat.reduceEqDiff, Nat.reduceAdd, Nat.reduceSub, Nat.reduceMul, Nat.reduceLT, Nat.reduceLeDiff, Nat.reduceBEq, Nat.reduceDiv, Nat.reduceMod, Int.reduceToNat, Int.reduceNeg, Int.reduceAdd, Int.reduceSub, Int.reduceMul, Int.reduceEq, Int.reduceNe, Int.reduceLT, Int.reduceLE, Int.reduceGT, Int.reduceGE, hM, hM', h]
    refine fin_ok (le_new (Mem.le_refl _) hid2) ⟨?_, rfl⟩
    simp [h]
  · simp -implicitDefEqProofs (maxSteps := 1000000) (disch := omega) only [↓xsP, ↓vc_seq, xsQ, xsT, xsR, xsD, ↓reduceIte, reduceCtorEq, eq_self, ne_eq, imp_self, forall_const, Nat.reduceEqDiff, Nat.reduceAdd, Nat.reduceSub, Nat.reduceMul, Nat.reduceLT, Nat.reduceLeDiff, Nat.reduceBEq, Nat.reduceDiv, Nat.reduceMod, Int.reduceToNat, Int.reduceNeg, Int.reduceAdd, Int.reduceSub, Int.reduceMul, Int.reduceEq, Int.reduceNe, Int.reduceLT, Int.reduceLE, Int.reduceGT, Int.reduceGE, hM, hM', h]
    refine fin_ok (le_new (Mem.le_refl _) hid2) ⟨?_, rfl⟩
    simp [h]

/-- The first place from i on of what is looked for; -1: none. -/
def pidx (q : Pr → Bool) : List Pr → Nat → Int
  | [], _ => -1
  | p :: r, i => if q p then i else pidx q r (i + 1)

theorem index_spec (l : List Pr) (hl : l.length ≤ 140737488355328) (s : Lf) (M : Mem) (hs : SrcIs M s l) (f : FuncId) (caps : List Lf) (q : Pr → Bool) (hq : ∀ p, XCalls Go.Proofs.Try.prog f ([.agg p.row] ++ caps.map .l) M fun r M' => r = .l (.bool (q p)) ∧ M' = M) :
    XCalls Go.Proofs.Try.prog 70 [.l s, .l (.clo f caps)] M fun r M' => r = .l (.int .i64 (pidx q l 0)) ∧ M' = M := by
  refine xcalls_intro (rs := [.tmp 4]) Go.Proofs.Try.func70 rfl (by kernel_rfl) rfl rfl (by kernel_rfl) (by simp) ?_
  have hstep : ∀ i, i < l.length → l.drop i = l.getD i default :: l.drop (i + 1) := fun i hi => by
    rw [List.drop_eq_getElem_cons hi, List.getD_eq_getElem?_getD, List.getElem?_eq_getElem hi, Option.getD_some]
  have inv0 : ∀ i, (i : Nat) = 0 → pidx q l 0 = pidx q (l.drop i) i := fun i h => by subst h; rfl
  rcases hs with rfl | ⟨id, keep, rfl, hM⟩
  · simp -implicitDefEqProofs (maxSteps := 1000000) (disch := omega) only [↓xsP, ↓vc_seq, xsQ, xsT, xsR, xsD, ↓reduceIte, reduceCtorEq, eq_self, ne_eq, imp_self, forall_const, Nat.reduceEqDiff, Nat.reduceAdd, Nat.reduceSub, Nat.reduceMul, Nat.reduceLT, Nat.reduceLeDiff, Nat.reduceBEq, Nat.reduceDiv, Nat.reduceMod, Int.reduceToNat, Int.reduceNeg, Int.reduceAdd, Int.reduceSub, Int.reduceMul, Int.reduceEq, Int.reduceNe, Int.reduceLT, Int.reduceLE, Int.reduceGT, Int.reduceGE]
    refine loopI_of (xloop (by kernel_rfl) (fun k fr M' => ∃ i : Nat, i ≤ l.length ∧ k = l.length - i ∧ fr 0 = .l (.sl (l.map Pr.row)) ∧ fr 1 = .l (.clo f caps) ∧ fr 7 = .l (.int .i64 l.length) ∧ fr 8 = .l (.int .i64 i) ∧ M' = M ∧ pidx q l 0 = pidx q (l.drop i) i) l.length ?_ ?_)
    · exact ⟨0, Nat.zero_le _, rfl, by simp -implicitDefEqProofs (maxSteps := 1000000) (disch := omega) only [↓xsP, ↓vc_seq, xsQ, xsT, xsR, xsD, ↓reduceIte, reduceCtorEq, eq_self, ne_eq, imp_self, forall_const, Nat.reduceEqDiff, Nat.reduceAdd, Nat.reduceSub, Nat.reduceMul, Nat.reduceLT, Nat.reduceLeDiff, Nat.reduceBEq, Nat.reduceDiv, Nat.reduceMod, Int.reduceToNat, Int.reduceNeg, Int.reduceAdd, Int.reduceSub, Int.reduceMul, Int.reduceEq, Int.reduceNe, Int.reduceLT, Int.reduceLE, Int.reduceGT, Int.reduceGE], by simp -implicitDefEqProofs (maxSteps := 1000000) (disch := omega) only [↓xsP, ↓vc_seq, xsQ, xsT, xsR, xsD, ↓reduceIte, reduceCtorEq, eq_self, ne_eq, imp_self, forall_const, Nat.reduceEqDiff, Nat.reduceAdd, Nat.reduceSub, Nat.reduceMul, Nat.reduceLT, Nat.reduceLeDiff, Nat.reduceBEq, Nat.reduceDiv, Nat.reduceMod, Int.reduceToNat, Int.reduceNeg, Int.reduceAdd, Int.reduceSub, Int.reduceMul, Int.reduceEq, Int.reduceNe, Int.reduceLT, Int.reduceLE, Int.reduceGT, Int.reduceGE], by simp -implicitDefEqProofs (maxSteps := 1000000) (disch := omega) only [↓xsP, ↓vc_seq, xsQ, xsT, xsR, xsD, ↓reduceIte, reduceCtorEq, eq_self, ne_eq, imp_self, forall_const, Nat.reduceEqDiff, Nat.reduceAdd, Nat.reduceSub, Nat.reduceMul, Nat.reduceLT, Nat.reduceLeDiff, Nat.reduceBEq, Nat.reduceDiv, Nat.reduceMod, Int.reduceToNat, Int.reduceNeg, Int.reduceAdd, Int.reduceSub, Int.reduceMul, Int.reduceEq, Int.reduceNe, Int.reduceLT, Int.reduceLE, Int.reduceGT, Int.reduceGE], by simp -implicitDefEqProofs (maxSteps := 1000000) (disch := omega) only [↓xsP, ↓vc_seq, xsQ, xsT, xsR, xsD, ↓reduceIte, reduceCtorEq, eq_self, ne_eq, imp_self, forall_const, Nat.reduceEqDiff, Nat.reduceAdd, Nat.reduceSub, Nat.reduceMul, Nat.reduceLT, Nat.reduceLeDiff, Nat.reduceBEq, Nat.reduceDiv, Nat.reduceMod, Int.reduceToNat, Int.reduceNeg, Int.reduceAdd, Int.reduceSub, Int.reduceMul, Int.reduceEq, Int.reduceNe, Int.reduceLT, Int.reduceLE, Int.reduceGT, Int.reduceGE, Int.cast_ofNat_Int], rfl, inv0 0 rfl⟩
    · rintro k fr M' ⟨i, hi, rfl, h0, h1, h7, h8, rfl, hinv⟩
      simp -implicitDefEqProofs (maxSteps := 1000000) (disch := omega) only [↓xsP, ↓vc_seq, xsQ, xsT, xsR, xsD, ↓reduceIte, reduceCtorEq, eq_self, ne_eq, imp_self, forall_const, Nat.reduceEqDiff, Nat.reduceAdd, Nat.reduceSub, Nat.reduceMul, Nat.reduceLT, Nat.reduceLeDiff, Nat.reduceBEq, Nat.reduceDiv, Nat.reduceMod, Int.reduceToNat, Int.reduceNeg, Int.reduceAdd, Int.reduceSub, Int.reduceMul, Int.reduceEq, Int.reduceNe, Int.reduceLT, Int.reduceLE, Int.reduceGT, Int.reduceGE, h0, h1, h7, h8]
      refine condI_prop (fun hlt => ?_) (fun hlt => ?_)
      · simp -implicitDefEqProofs (maxSteps := 1000000) (disch := omega) only [↓xsP, ↓vc_seq, xsQ, xsT, xsR, xsD, ↓reduceIte, reduceCtorEq, eq_self, ne_eq, imp_self, forall_const, Nat.reduceEqDiff, Nat.reduceAdd, Nat.reduceSub, Nat.reduceMul, Nat.reduceLT, Nat.reduceLeDiff, Nat.reduceBEq, Nat.reduceDiv, Nat.reduceMod, Int.reduceToNat, Int.reduceNeg, Int.reduceAdd, Int.reduceSub, Int.reduceMul, Int.reduceEq, Int.reduceNe, Int.reduceLT, Int.reduceLE, Int.reduceGT, Int.reduceGE, h0, h1, h7, h8]
        rw [hstep i (by omega), pidx] at hinv
        refine call_of (hq (l.getD i default)) ?_
        cases hb : q (l.getD i default) with
        | true =>
          rw [hb, if_pos rfl] at hinv
          simp -implicitDefEqProofs (maxSteps := 1000000) (disch := omega) only [↓xsP, ↓vc_seq, xsQ, xsT, xsR, xsD, ↓reduceIte, reduceCtorEq, eq_self, ne_eq, imp_self, forall_const, Nat.reduceEqDiff, Nat.reduceAdd, Nat.reduceSub, Nat.reduceMul, Nat.reduceLT, Nat.reduceLeDiff, Nat.reduceBEq, Nat.reduceDiv, Nat.reduceMod, Int.reduceToNat, Int.reduceNeg, Int.reduceAdd, Int.reduceSub, Int.reduceMul, Int.reduceEq, Int.reduceNe, Int.reduceLT, Int.reduceLE, Int.reduceGT, Int.reduceGE, h0, h1, h7, h8]
          exact fin_ok (Mem.le_refl _) ⟨by rw [hinv], rfl⟩
        | false =>
          rw [hb] at hinv
          simp -implicitDefEqProofs (maxSteps := 1000000) (disch := omega) only [↓xsP, ↓vc_seq, xsQ, xsT, xsR, xsD, ↓reduceIte, reduceCtorEq, eq_self, ne_eq, imp_self, forall_const, Nat.reduceEqDiff, Nat.reduceAdd, Nat.reduceSub, Nat.reduceMul, Nat.reduceLT, Nat.reduceLeDiff, Nat.reduceBEq, Nat.reduceDiv, Nat.reduceMod, Int.reduceToNat, Int.reduceNeg, Int.reduceAdd, Int.reduceSub, Int.reduceMul, Int.reduceEq, Int.reduceNe, Int.reduceLT, Int.reduceLE, Int.reduceGT, Int.reduceGE, h0, h1, h7, h8]
          exact ⟨l.length - (i + 1), M', by omega, Mem.le_refl _, i + 1, by omega, rfl, by simp, rfl, by simpa using hinv⟩
      · simp -implicitDefEqProofs (maxSteps := 1000000) (disch := omega) only [↓xsP, ↓vc_seq, xsQ, xsT, xsR, xsD, ↓reduceIte, reduceCtorEq, eq_self, ne_eq, imp_self, forall_const, Nat.reduceEqDiff, Nat.reduceAdd, Nat.reduceSub, Nat.reduceMul, Nat.reduceLT, Nat.reduceLeDiff, Nat.reduceBEq, Nat.reduceDiv, Nat.reduceMod, Int.reduceToNat, Int.reduceNeg, Int.reduceAdd, Int.reduceSub, Int.reduceMul, Int.reduceEq, Int.reduceNe, Int.reduceLT, Int.reduceLE, Int.reduceGT, Int.reduceGE, h0, h1, h7, h8]
        have hil : i = l.length := by omega
        rw [hil, List.drop_length, pidx] at hinv
        exact fin_ok (Mem.le_refl _) ⟨by rw [hinv], rfl⟩
  · simp -implicitDefEqProofs (maxSteps := 1000000) (disch := omega) only [↓xsP, ↓vc_seq, xsQ, xsT, xsR, xsD, ↓reduceIte, reduceCtorEq, eq_self, ne_eq, imp_self, forall_const, Nat.reduceEqDiff, Nat.reduceAdd, Nat.reduceSub, Nat.reduceMul, Nat.reduceLT, Nat.reduceLeDiff, Nat.reduceBEq, Nat.reduceDiv, Nat.reduceMod, Int.reduceToNat, Int.reduceNeg, Int.reduceAdd, Int.reduceSub, Int.reduceMul, Int.reduceEq, Int.reduceNe, Int.reduceLT, Int.reduceLE, Int.reduceGT, Int.reduceGE]
    refine loopI_of (xloop (by kernel_rfl) (fun k fr M' => ∃ i : Nat, i ≤ l.length ∧ k = l.length - i ∧ fr 0 = .l (.ms id 0 l.length) ∧ fr 1 = .l (.clo f caps) ∧ fr 7 = .l (.int .i64 l.length) ∧ fr 8 = .l (.int .i64 i) ∧ M' = M ∧ pidx q l 0 = pidx q (l.drop i) i) l.length ?_ ?_)
    · exact ⟨0, Nat.zero_le _, rfl, by simp -implicitDefEqProofs (maxSteps := 1000000) (disch := omega) only [↓xsP, ↓vc_seq, xsQ, xsT, xsR, xsD, ↓reduceIte, reduceCtorEq, eq_self, ne_eq, imp_self, forall_const, Nat.reduceEqDiff, Nat.reduceAdd, Nat.reduceSub, Nat.reduceMul, Nat.reduceLT, Nat.reduceLeDiff, Nat.reduceBEq, Nat.reduceDiv, Nat.reduceMod, Int.reduceToNat, Int.reduceNeg, Int.reduceAdd, Int.reduceSub, Int.reduceMul, Int.reduceEq, Int.reduceNe, Int.reduceLT, Int.reduceLE, Int.reduceGT, Int.reduceGE], by simp -implicitDefEqProofs (maxSteps := 1000000) (disch := omega) only [↓xsP, ↓vc_seq, xsQ, xsT, xsR, xsD, ↓reduceIte, reduceCtorEq, eq_self, ne_eq, imp_self, forall_const, Nat.reduceEqDiff, Nat.reduceAdd, Nat.reduceSub, Nat.reduceMul, Nat.reduceLT, Nat.reduceLeDiff, Nat.reduceBEq, Nat.reduceDiv, Nat.reduceMod, Int.reduceToNat, Int.reduceNeg, Int.reduceAdd, Int.reduceSub, Int.reduceMul, Int.reduceEq, Int.reduceNe, Int.reduceLT, Int.reduceLE, Int.reduceGT, Int.reduceGE], by simp -implicitDefEqProofs (maxSteps := 1000000) (disch := omega) only [↓xsP, ↓vc_seq, xsQ, xsT, xsR, xsD, ↓reduceIte, reduceCtorEq, eq_self, ne_eq, imp_self, forall_const, Nat.reduceEqDiff, Nat.reduceAdd, Nat.reduceSub, Nat.reduceMul, Nat.reduceLT, Nat.reduceLeDiff, Nat.reduceBEq, Nat.reduceDiv, Nat.reduceMod, Int.reduceToNat, Int.reduceNeg, Int.reduceAdd, Int.reduceSub, Int.reduceMul, Int.reduceEq, Int.reduceNe, Int.reduceLT, Int.reduceLE, Int.reduceGT, Int.reduceGE], by simp -implicitDefEqProofs (maxSteps := 1000000) (disch := omega) only [↓xsP, ↓vc_seq, xsQ, xsT, xsR, xsD, ↓reduceIte, reduceCtorEq, eq_self, ne_eq, imp_self, forall_const, Nat.reduceEqDiff, Nat.reduceAdd, Nat.reduceSub, Nat.reduceMul, Nat.reduceLT, Nat.reduceLeDiff, Nat.reduceBEq, Nat.reduceDiv, Nat.reduceMod, Int.reduceToNat, Int.reduceNeg, Int.reduceAdd, Int.reduceSub, Int.reduceMul, Int.reduceEq, Int.reduceNe, Int.reduceLT, Int.reduceLE, Int.reduceGT, Int.reduceGE, Int.cast_ofNat_Int], rfl, inv0 0 rfl⟩
    · rintro k fr M' ⟨i, hi, rfl, h0, h1, h7, h8, rfl, hinv⟩
      simp -implicitDefEqProofs (maxSteps := 1000000) (disch := omega) only [↓xsP, ↓vc_seq, xsQ, xsT, xsR, xsD, ↓reduceIte, reduceCtorEq, eq_self, ne_eq, imp_self, forall_const, Nat.reduceEqDiff, Nat.reduceAdd, Nat.reduceSub, Nat.reduceMul, Nat.reduceLT, Nat.reduceLeDiff, Nat.reduceBEq, Nat.reduceDiv, Nat.reduceMod, Int.reduceToNat, Int.reduceNeg, Int.reduceAdd, Int.reduceSub, Int.reduceMul, Int.reduceEq, Int.reduceNe, Int.reduceLT, Int.reduceLE, Int.reduceGT, Int.reduceGE, h0, h1, h7, h8]
      refine condI_prop (fun hlt => ?_) (fun hlt => ?_)
      · simp -implicitDefEqProofs (maxSteps := 1000000) (disch := omega) only [↓xsP, ↓vc_seq, xsQ, xsT, xsR, xsD, ↓reduceIte, reduceCtorEq, eq_self, ne_eq, imp_self, forall_const, Nat.reduceEqDiff, Nat.reduceAdd, Nat.reduceSub, Nat.reduceMul, Nat.reduceLT, Nat.reduceLeDiff, Nat.reduceBEq, Nat.reduceDiv, Nat.reduceMod, Int.reduceToNat, Int.reduceNeg, Int.reduceAdd, Int.reduceSub, Int.reduceMul, Int.reduceEq, Int.reduceNe, Int.reduceLT, Int.reduceLE, Int.reduceGT, Int.reduceGE, h0, h1, h7, h8, hM]
        rw [hstep i (by omega), pidx] at hinv
        refine call_of (hq (l.getD i default)) ?_
        cases hb : q (l.getD i default) with
        | true =>
          rw [hb, if_pos rfl] at hinv
          simp -implicitDefEqProofs (maxSteps := 1000000) (disch := omega) only [↓xsP, ↓vc_seq, xsQ, xsT, xsR, xsD, ↓reduceIte, reduceCtorEq, eq_self, ne_eq, imp_self, forall_const, Nat.reduceEqDiff, Nat.reduceAdd, Nat.reduceSub, Nat.reduceMul, Nat.reduceLT, Nat.reduceLeDiff, Nat.reduceBEq, Nat.reduceDiv, Nat.reduceMod, Int.reduceToNat, Int.reduceNeg, Int.reduceAdd, Int.reduceSub, Int.reduceMul, Int.reduceEq, Int.reduceNe, Int.reduceLT, Int.reduceLE, Int.reduceGT, Int.reduceGE, h0, h1, h7, h8]
          exact fin_ok (Mem.le_refl _) ⟨by rw [hinv], rfl⟩
        | false =>
          rw [hb] at hinv
          simp -implicitDefEqProofs (maxSteps := 1000000) (disch := omega) only [↓xsP, ↓vc_seq, xsQ, xsT, xsR, xsD, ↓reduceIte, reduceCtorEq, eq_self, ne_eq, imp_self, forall_const, Nat.reduceEqDiff, Nat.reduceAdd, Nat.reduceSub, Nat.reduceMul, Nat.reduceLT, Nat.reduceLeDiff, Nat.reduceBEq, Nat.reduceDiv, Nat.reduceMod, Int.reduceToNat, Int.reduceNeg, Int.reduceAdd, Int.reduceSub, Int.reduceMul, Int.reduceEq, Int.reduceNe, Int.reduceLT, Int.reduceLE, Int.reduceGT, Int.reduceGE, h0, h1, h7, h8]
          exact ⟨l.length - (i + 1), M', by omega, Mem.le_refl _, i + 1, by omega, rfl, by simp, rfl, by simpa using hinv⟩
      · simp -implicitDefEqProofs (maxSteps := 1000000) (disch := omega) only [↓xsP, ↓vc_seq, xsQ, xsT, xsR, xsD, ↓reduceIte, reduceCtorEq, eq_self, ne_eq, imp_self, forall_const, Nat.reduceEqDiff, Nat.reduceAdd, Nat.reduceSub, Nat.reduceMul, Nat.reduceLT, Nat.reduceLeDiff, Nat.reduceBEq, Nat.reduceDiv, Nat.reduceMod, Int.reduceToNat, Int.reduceNeg, Int.reduceAdd, Int.reduceSub, Int.reduceMul, Int.reduceEq, Int.reduceNe, Int.reduceLT, Int.reduceLE, Int.reduceGT, Int.reduceGE, h0, h1, h7, h8]
        have hil : i = l.length := by omega
        rw [hil, List.drop_length, pidx] at hinv
        exact fin_ok (Mem.le_refl _) ⟨by rw [hinv], rfl⟩

theorem find_spec (l : List Pr) (hl : l.length ≤ 140737488355328) (k : Int) (M : Mem) :
    XCalls Go.Proofs.Try.prog 67 [.l (.sl (l.map Pr.row)), .l (.int .i64 k)] M fun r M' => r = .l (.int .i64 (pidx (fun p => decide (p.key = k)) l 0)) ∧ M' = M := by
  refine xcalls_intro (rs := [.tmp 4]) Go.Proofs.Try.func67 rfl (by kernel_rfl) rfl rfl (by kernel_rfl) (by simp) ?_
  simp -implicitDefEqProofs (maxSteps := 1000000) (disch := omega) only [↓xsP, ↓vc_seq, xsQ, xsT, xsR, xsD, ↓reduceIte, reduceCtorEq, eq_self, ne_eq, imp_self, forall_const, Nat.reduceEqDiff, Nat.reduceAdd, Nat.reduceSub, Nat.reduceMul, Nat.reduceLT, Nat.reduceLeDiff, Nat.reduceBEq, Nat.reduceDiv, Nat.reduceMod, Int.reduceToNat, Int.reduceNeg, Int.reduceAdd, Int.reduceSub, Int.reduceMul, Int.reduceEq, Int.reduceNe, Int.reduceLT, Int.reduceLE, Int.reduceGT, Int.reduceGE]
  refine newI_intro fun id hid => ?_
  simp -implicitDefEqProofs (maxSteps := 1000000) (disch := omega) only [↓xsP, ↓vc_seq, xsQ, xsT, xsR, xsD, ↓reduceIte, reduceCtorEq, eq_self, ne_eq, imp_self, forall_const, Nat.reduceEqDiff, Nat.reduceAdd, Nat.reduceSub, Nat.reduceMul, Nat.reduceLT, Nat.reduceLeDiff, Nat.reduceBEq, Nat.reduceDiv, Nat.reduceMod, Int.reduceToNat, Int.reduceNeg, Int.reduceAdd, Int.reduceSub, Int.reduceMul, Int.reduceEq, Int.reduceNe, Int.reduceLT, Int.reduceLE, Int.reduceGT, Int.reduceGE]
  refine call_of (index_spec l hl _ _ (.inl rfl) _ _ (fun p => decide (p.key = k)) (fun p => findClo_spec p id k _ (Mem.set_eq _ _ _))) ?_
  simp -implicitDefEqProofs (maxSteps := 1000000) (disch := omega) only [↓xsP, ↓vc_seq, xsQ, xsT, xsR, xsD, ↓reduceIte, reduceCtorEq, eq_self, ne_eq, imp_self, forall_const, Nat.reduceEqDiff, Nat.reduceAdd, Nat.reduceSub, Nat.reduceMul, Nat.reduceLT, Nat.reduceLeDiff, Nat.reduceBEq, Nat.reduceDiv, Nat.reduceMod, Int.reduceToNat, Int.reduceNeg, Int.reduceAdd, Int.reduceSub, Int.reduceMul, Int.reduceEq, Int.reduceNe, Int.reduceLT, Int.reduceLE, Int.reduceGT, Int.reduceGE]
  exact fin_ok (le_new (Mem.le_refl _) hid) ⟨rfl, rfl⟩

theorem eql_sl_nil (P : Program) (t : TypeId) (x : Operand) (rows : List (List Lf)) (K : AV → Prop) : @binI P .eql t x (.const (.slice none 0 0)) (.l (.sl rows)) (.l .nils) ⟨K⟩ = @optI _ (tiOf P t) ⟨fun i => match i.d with | .slice _ => @nilSI false (.l (.sl rows)) ⟨K⟩ | _ => False⟩ :=
  eql_nils P t x _ _ (fun k n h => by cases h) K
theorem rows2 (l : List Pr) : ∀ r ∈ l.map Pr.row, r.length = 2 := fun r hr => by
  obtain ⟨p, _, rfl⟩ := List.mem_map.1 hr
  rfl
/-- append of pairs to a slice of a live block. -/
theorem app_prs {l : List Pr} {id len : Nat} {rows : List (List Lf)} {keep : Nat} {M : Mem} (hM : M id = some (.cells 26 rows keep)) (hlen : len ≤ rows.length) (hk : keep ≤ len) (hb : len + l.length ≤ 2000002) {K : AV → Mem → Prop}
    (h : ∀ id', (∀ j, id' ≤ j → M j = none) → K (.l (.ms id' 0 (len + l.length))) ((M.del id).set id' (.cells 26 (rows.take len ++ l.map Pr.row) keep))) :
    @appI Go.Proofs.Try.prog M 27 27 (.l (.ms id 0 len)) (.l (.sl (l.map Pr.row))) ⟨K⟩ := by
  refine app_ms _ _ _ _ 26 _ _ ti_27 rfl ti_26 (by kernel_rfl) (by decide) id len _ (rows := rows) (keep := keep) (l.map Pr.row) hM ?_ hlen hk ?_ ?_ ?_
  · simp -implicitDefEqProofs (maxSteps := 1000000) (disch := omega) only [↓xsP, ↓vc_seq, xsQ, xsT, xsR, xsD, ↓reduceIte, reduceCtorEq, eq_self, ne_eq, imp_self, forall_const, Nat.reduceEqDiff, Nat.reduceAdd, Nat.reduceSub, Nat.reduceMul, Nat.reduceLT, Nat.reduceLeDiff, Nat.reduceBEq, Nat.reduceDiv, Nat.reduceMod, Int.reduceToNat, Int.reduceNeg, Int.reduceAdd, Int.reduceSub, Int.reduceMul, Int.reduceEq, Int.reduceNe, Int.reduceLT, Int.reduceLE, Int.reduceGT, Int.reduceGE]
    rw [if_pos (rows2 l)]
  · exact Nat.le_trans (Nat.mul_le_mul_right _ (show len + (l.map Pr.row).length ≤ 2000002 by simpa using hb)) (by decide)
  · simp
    omega
  · simpa using h
theorem le_clone {M : Mem} {id id' : Nat} {X Y : Blk} (h : M id = none) : (M.set id' X).le (((M.set id Y).del id).set id' X) := fun i b hb => by
  simp only [Mem.set_app, Mem.del_app] at hb ⊢
  by_cases e : id' = i
  · rw [if_pos e] at hb ⊢; exact hb
  · rw [if_neg e] at hb ⊢
    have hne : ¬ id = i := fun e' => by subst e'; rw [h] at hb; cases hb
    rw [if_neg hne, if_neg hne]
    exact hb
/-- A copy: nil, or a block of its own. -/
theorem clone_live (l : List Pr) (hl : l.length ≤ 1000001) (M : Mem) :
    XCalls Go.Proofs.Try.prog 57 [.l (.sl (l.map Pr.row))] M fun r M' => (r = .l .nils ∧ l = [] ∧ M' = M) ∨ ∃ id, (∀ j, id ≤ j → M j = none) ∧ r = .l (.ms id 0 l.length) ∧ M' = M.set id (.cells 26 (l.map Pr.row) 0) := by
  refine xcalls_intro (rs := [.tmp 2]) Go.Proofs.Try.func57 rfl (by kernel_rfl) rfl rfl (by kernel_rfl) (by simp) ?_
  simp -implicitDefEqProofs (maxSteps := 1000000) (disch := omega) only [↓xsP, ↓vc_seq, xsQ, xsT, xsR, xsD, ↓reduceIte, reduceCtorEq, eq_self, ne_eq, imp_self, forall_const, Nat.reduceEqDiff, Nat.reduceAdd, Nat.reduceSub, Nat.reduceMul, Nat.reduceLT, Nat.reduceLeDiff, Nat.reduceBEq, Nat.reduceDiv, Nat.reduceMod, Int.reduceToNat, Int.reduceNeg, Int.reduceAdd, Int.reduceSub, Int.reduceMul, Int.reduceEq, Int.reduceNe, Int.reduceLT, Int.reduceLE, Int.reduceGT, Int.reduceGE]
  rw [eql_sl_nil]
  simp -implicitDefEqProofs (maxSteps := 1000000) (disch := omega) only [↓xsP, ↓vc_seq, xsQ, xsT, xsR, xsD, ↓reduceIte, reduceCtorEq, eq_self, ne_eq, imp_self, forall_const, Nat.reduceEqDiff, Nat.reduceAdd, Nat.reduceSub, Nat.reduceMul, Nat.reduceLT, Nat.reduceLeDiff, Nat.reduceBEq, Nat.reduceDiv, Nat.reduceMod, Int.reduceToNat, Int.reduceNeg, Int.reduceAdd, Int.reduceSub, Int.reduceMul, Int.reduceEq, Int.reduceNe, Int.reduceLT, Int.reduceLE, Int.reduceGT, Int.reduceGE]
  refine nilSI_sl _ (fun he b => ?_) (fun hne => ?_)
  · have hl0 : l = [] := by simpa using he
    subst hl0
    cases b with
    | true =>
      simp -implicitDefEqProofs (maxSteps := 1000000) (disch := omega) only [↓xsP, ↓vc_seq, xsQ, xsT, xsR, xsD, ↓reduceIte, reduceCtorEq, eq_self, ne_eq, imp_self, forall_const, Nat.reduceEqDiff, Nat.reduceAdd, Nat.reduceSub, Nat.reduceMul, Nat.reduceLT, Nat.reduceLeDiff, Nat.reduceBEq, Nat.reduceDiv, Nat.reduceMod, Int.reduceToNat, Int.reduceNeg, Int.reduceAdd, Int.reduceSub, Int.reduceMul, Int.reduceEq, Int.reduceNe, Int.reduceLT, Int.reduceLE, Int.reduceGT, Int.reduceGE]
      exact fin_ok (Mem.le_refl _) (.inl ⟨rfl, rfl, rfl⟩)
    | false =>
      simp -implicitDefEqProofs (maxSteps := 1000000) (disch := omega) only [↓xsP, ↓vc_seq, xsQ, xsT, xsR, xsD, ↓reduceIte, reduceCtorEq, eq_self, ne_eq, imp_self, forall_const, Nat.reduceEqDiff, Nat.reduceAdd, Nat.reduceSub, Nat.reduceMul, Nat.reduceLT, Nat.reduceLeDiff, Nat.reduceBEq, Nat.reduceDiv, Nat.reduceMod, Int.reduceToNat, Int.reduceNeg, Int.reduceAdd, Int.reduceSub, Int.reduceMul, Int.reduceEq, Int.reduceNe, Int.reduceLT, Int.reduceLE, Int.reduceGT, Int.reduceGE]
      refine newI_intro fun id hid => ?_
      simp -implicitDefEqProofs (maxSteps := 1000000) (disch := omega) only [↓xsP, ↓vc_seq, xsQ, xsT, xsR, xsD, ↓reduceIte, reduceCtorEq, eq_self, ne_eq, imp_self, forall_const, Nat.reduceEqDiff, Nat.reduceAdd, Nat.reduceSub, Nat.reduceMul, Nat.reduceLT, Nat.reduceLeDiff, Nat.reduceBEq, Nat.reduceDiv, Nat.reduceMod, Int.reduceToNat, Int.reduceNeg, Int.reduceAdd, Int.reduceSub, Int.reduceMul, Int.reduceEq, Int.reduceNe, Int.reduceLT, Int.reduceLE, Int.reduceGT, Int.reduceGE]
      refine app_prs (l := []) (rows := []) (keep := 0) (Mem.set_eq _ _ _) (Nat.zero_le _) (Nat.le_refl _) (by simp) fun id' hid' => ?_
      obtain ⟨hlt, hid'⟩ := bnd_new hid'
      simp -implicitDefEqProofs (maxSteps := 1000000) (disch := omega) only [↓xsP, ↓vc_seq, xsQ, xsT, xsR, xsD, ↓reduceIte, reduceCtorEq, eq_self, ne_eq, imp_self, forall_const, Nat.reduceEqDiff, Nat.reduceAdd, Nat.reduceSub, Nat.reduceMul, Nat.reduceLT, Nat.reduceLeDiff, Nat.reduceBEq, Nat.reduceDiv, Nat.reduceMod, Int.reduceToNat, Int.reduceNeg, Int.reduceAdd, Int.reduceSub, Int.reduceMul, Int.reduceEq, Int.reduceNe, Int.reduceLT, Int.reduceLE, Int.reduceGT, Int.reduceGE]
      exact finI_of (XFin.le (le_clone (hid _ (Nat.le_refl _))) (.inr ⟨id', hid', rfl, rfl⟩))
  · simp -implicitDefEqProofs (maxSteps := 1000000) (disch := omega) only [↓xsP, ↓vc_seq, xsQ, xsT, xsR, xsD, ↓reduceIte, reduceCtorEq, eq_self, ne_eq, imp_self, forall_const, Nat.reduceEqDiff, Nat.reduceAdd, Nat.reduceSub, Nat.reduceMul, Nat.reduceLT, Nat.reduceLeDiff, Nat.reduceBEq, Nat.reduceDiv, Nat.reduceMod, Int.reduceToNat, Int.reduceNeg, Int.reduceAdd, Int.reduceSub, Int.reduceMul, Int.reduceEq, Int.reduceNe, Int.reduceLT, Int.reduceLE, Int.reduceGT, Int.reduceGE]
    refine newI_intro fun id hid => ?_
    simp -implicitDefEqProofs (maxSteps := 1000000) (disch := omega) only [↓xsP, ↓vc_seq, xsQ, xsT, xsR, xsD, ↓reduceIte, reduceCtorEq, eq_self, ne_eq, imp_self, forall_const, Nat.reduceEqDiff, Nat.reduceAdd, Nat.reduceSub, Nat.reduceMul, Nat.reduceLT, Nat.reduceLeDiff, Nat.reduceBEq, Nat.reduceDiv, Nat.reduceMod, Int.reduceToNat, Int.reduceNeg, Int.reduceAdd, Int.reduceSub, Int.reduceMul, Int.reduceEq, Int.reduceNe, Int.reduceLT, Int.reduceLE, Int.reduceGT, Int.reduceGE]
    refine app_prs (l := l) (rows := []) (keep := 0) (Mem.set_eq _ _ _) (Nat.zero_le _) (Nat.le_refl _) (by omega) fun id' hid' => ?_
    obtain ⟨hlt, hid'⟩ := bnd_new hid'
    simp -implicitDefEqProofs (maxSteps := 1000000) (disch := omega) only [↓xsP, ↓vc_seq, xsQ, xsT, xsR, xsD, ↓reduceIte, reduceCtorEq, eq_self, ne_eq, imp_self, forall_const, Nat.reduceEqDiff, Nat.reduceAdd, Nat.reduceSub, Nat.reduceMul, Nat.reduceLT, Nat.reduceLeDiff, Nat.reduceBEq, Nat.reduceDiv, Nat.reduceMod, Int.reduceToNat, Int.reduceNeg, Int.reduceAdd, Int.reduceSub, Int.reduceMul, Int.reduceEq, Int.reduceNe, Int.reduceLT, Int.reduceLE, Int.reduceGT, Int.reduceGE]
    exact finI_of (XFin.le (le_clone (hid _ (Nat.le_refl _))) (.inr ⟨id', hid', rfl, rfl⟩))
/-- A copy, kept. -/
theorem clone_spec (l : List Pr) (hl : l.length ≤ 1000001) (M : Mem) :
    XCalls Go.Proofs.Try.prog 57 [.l (.sl (l.map Pr.row))] M fun r M' => r = .l (.sl (l.map Pr.row)) ∧ M' = M := by
  refine (clone_live l hl M).fin ?_
  rintro v M' (⟨rfl, rfl, rfl⟩ | ⟨id, hid, rfl, rfl⟩)
  · exact XFin.wk (XFin.here ⟨rfl, rfl⟩)
  · refine XFin.frz id (Mem.set_eq _ _ _) (XFin.le ?_ ⟨?_, rfl⟩)
    · exact le_new (le_new (Mem.le_refl _) hid) hid
    · simp [frzA, frz1, frzL, List.take_of_length_le]

theorem pidx_cases (q : Pr → Bool) : ∀ (l : List Pr) (i : Nat), (pidx q l i = -1 ∧ ∀ p ∈ l, q p = false) ∨ ∃ k, k < l.length ∧ pidx q l i = (i : Int) + k ∧ q (l.getD k default) = true ∧ ∀ p ∈ l.take k, q p = false
  | [], i => .inl ⟨rfl, fun p hp => by cases hp⟩
  | p :: r, i => by
    simp only [pidx]
    cases hq : q p with
    | true => exact .inr ⟨0, by simp, by simp, by simpa using hq, fun p hp => by simp at hp⟩
    | false =>
      rcases pidx_cases q r (i + 1) with ⟨h1, h2⟩ | ⟨k, hk, h1, h2, h3⟩
      · refine .inl ⟨by simpa using h1, fun x hx => ?_⟩
        rcases List.mem_cons.1 hx with rfl | hx
        · exact hq
        · exact h2 x hx
      · refine .inr ⟨k + 1, by simpa using hk, ?_, by simpa using h2, fun x hx => ?_⟩
        · simp only [Bool.false_eq_true, if_false]
          rw [h1]
          omega
        · rw [List.take_succ_cons] at hx
          rcases List.mem_cons.1 hx with rfl | hx
          · exact hq
          · exact h3 x hx

/-- The pairs that stay. -/
def stays (q : Pr → Bool) (l : List Pr) : List Pr := l.filter fun p => !q p
theorem stays_all {q : Pr → Bool} {l : List Pr} (h : ∀ p ∈ l, q p = false) : stays q l = l := List.filter_eq_self.2 fun p hp => by simp [h p hp]
theorem stays_snoc (q : Pr → Bool) (l : List Pr) {j : Nat} (hj : j < l.length) : stays q (l.take (j + 1)) = stays q (l.take j) ++ (if q (l.getD j default) then [] else [l.getD j default]) := by
  have : l.take (j + 1) = l.take j ++ [l.getD j default] := by
    rw [List.take_add_one, List.getD_eq_getElem?_getD, List.getElem?_eq_getElem hj]
    rfl
  rw [this, stays, List.filter_append, stays]
  congr 1
  cases hq : q (l.getD j default) <;> simp [hq, -List.getD_eq_getElem?_getD]

theorem delete_spec (l : List Pr) (hl : l.length ≤ 1000001) (id : Nat) (M : Mem) (hM : M id = some (.cells 26 (l.map Pr.row) 0)) (f : FuncId) (caps : List Lf) (q : Pr → Bool)
    (hq : ∀ p M', (∀ j b, j ≠ id → M j = some b → M' j = some b) → XCalls Go.Proofs.Try.prog f ([.agg p.row] ++ caps.map .l) M' fun r M'' => r = .l (.bool (q p)) ∧ M'' = M') :
    XCalls Go.Proofs.Try.prog 65 [.l (.ms id 0 l.length), .l (.clo f caps)] M fun r M' => ∃ R : List Pr, r = .l (.ms id 0 (stays q l).length) ∧ M' = M.set id (.cells 26 (R.map Pr.row) 0) ∧ R.take (stays q l).length = stays q l ∧ (stays q l).length ≤ R.length := by
  refine xcalls_intro (rs := [.tmp 4]) Go.Proofs.Try.func65 rfl (by kernel_rfl) rfl rfl (by kernel_rfl) (by simp) ?_
  simp -implicitDefEqProofs (maxSteps := 1000000) (disch := omega) only [↓xsP, ↓vc_seq, xsQ, xsT, xsR, xsD, ↓reduceIte, reduceCtorEq, eq_self, ne_eq, imp_self, forall_const, Nat.reduceEqDiff, Nat.reduceAdd, Nat.reduceSub, Nat.reduceMul, Nat.reduceLT, Nat.reduceLeDiff, Nat.reduceBEq, Nat.reduceDiv, Nat.reduceMod, Int.reduceToNat, Int.reduceNeg, Int.reduceAdd, Int.reduceSub, Int.reduceMul, Int.reduceEq, Int.reduceNe, Int.reduceLT, Int.reduceLE, Int.reduceGT, Int.reduceGE]
  refine call_of (index_spec l (by omega) _ _ (.inr ⟨id, 0, rfl, hM⟩) _ _ q fun p => hq p M fun j b _ h => h) ?_
  have hset : M.set id (.cells 26 (l.map Pr.row) 0) = M := by
    funext i
    rw [Mem.set_app]
    split
    · rename_i e; subst e; exact hM.symm
    · rfl
  rcases pidx_cases q l 0 with ⟨h1, h2⟩ | ⟨k, hk, h1, h2, h3⟩
  · rw [h1]
    simp -implicitDefEqProofs (maxSteps := 1000000) (disch := omega) only [↓xsP, ↓vc_seq, xsQ, xsT, xsR, xsD, ↓reduceIte, reduceCtorEq, eq_self, ne_eq, imp_self, forall_const, Nat.reduceEqDiff, Nat.reduceAdd, Nat.reduceSub, Nat.reduceMul, Nat.reduceLT, Nat.reduceLeDiff, Nat.reduceBEq, Nat.reduceDiv, Nat.reduceMod, Int.reduceToNat, Int.reduceNeg, Int.reduceAdd, Int.reduceSub, Int.reduceMul, Int.reduceEq, Int.reduceNe, Int.reduceLT, Int.reduceLE, Int.reduceGT, Int.reduceGE]
    refine finI_of (XFin.here ⟨l, by rw [stays_all h2], hset.symm, by rw [stays_all h2, List.take_length], by rw [stays_all h2]; exact Nat.le_refl _⟩)
  · rw [h1]
    have hk1 : ((0 : Nat) : Int) + (k : Int) = (k : Int) := by omega
    rw [hk1]
    have hkn : ((k : Int) = -1) = False := eq_false (by omega)
    simp -implicitDefEqProofs (maxSteps := 1000000) (disch := omega) only [↓xsP, ↓vc_seq, xsQ, xsT, xsR, xsD, ↓reduceIte, reduceCtorEq, eq_self, ne_eq, imp_self, forall_const, Nat.reduceEqDiff, Nat.reduceAdd, Nat.reduceSub, Nat.reduceMul, Nat.reduceLT, Nat.reduceLeDiff, Nat.reduceBEq, Nat.reduceDiv, Nat.reduceMod, Int.reduceToNat, Int.reduceNeg, Int.reduceAdd, Int.reduceSub, Int.reduceMul, Int.reduceEq, Int.reduceNe, Int.reduceLT, Int.reduceLE, Int.reduceGT, Int.reduceGE, hkn]
    have hst0 : stays q (l.take (k + 1)) = l.take k := by
      rw [stays_snoc q l hk, h2, if_pos rfl, List.append_nil, stays_all h3]
    refine loopI_of (xloop (by kernel_rfl) (fun r fr M' => ∃ (j i : Nat) (R : List Pr), i < j ∧ j ≤ l.length ∧ r = l.length - j ∧ fr 0 = .l (.ms id 0 l.length) ∧ fr 1 = .l (.clo f caps) ∧ fr 5 = .l (.int .i64 i) ∧ fr 6 = .l (.int .i64 j) ∧
      R.length = l.length ∧ R.take i = stays q (l.take j) ∧ i = (stays q (l.take j)).length ∧ R.drop j = l.drop j ∧ M' = M.set id (.cells 26 (R.map Pr.row) 0)) (l.length - (k + 1)) ?_ ?_)
    · exact ⟨k + 1, k, l, by omega, by omega, rfl, by simp -implicitDefEqProofs (maxSteps := 1000000) (disch := omega) only [↓xsP, ↓vc_seq, xsQ, xsT, xsR, xsD, ↓reduceIte, reduceCtorEq, eq_self, ne_eq, imp_self, forall_const, Nat.reduceEqDiff, Nat.reduceAdd, Nat.reduceSub, Nat.reduceMul, Nat.reduceLT, Nat.reduceLeDiff, Nat.reduceBEq, Nat.reduceDiv, Nat.reduceMod, Int.reduceToNat, Int.reduceNeg, Int.reduceAdd, Int.reduceSub, Int.reduceMul, Int.reduceEq, Int.reduceNe, Int.reduceLT, Int.reduceLE, Int.reduceGT, Int.reduceGE], by simp -implicitDefEqProofs (maxSteps := 1000000) (disch := omega) only [↓xsP, ↓vc_seq, xsQ, xsT, xsR, xsD, ↓reduceIte, reduceCtorEq, eq_self, ne_eq, imp_self, forall_const, Nat.reduceEqDiff, Nat.reduceAdd, Nat.reduceSub, Nat.reduceMul, Nat.reduceLT, Nat.reduceLeDiff, Nat.reduceBEq, Nat.reduceDiv, Nat.reduceMod, Int.reduceToNat, Int.reduceNeg, Int.reduceAdd, Int.reduceSub, Int.reduceMul, Int.reduceEq, Int.reduceNe, Int.reduceLT, Int.reduceLE, Int.reduceGT, Int.reduceGE], by simp -implicitDefEqProofs (maxSteps := 1000000) (disch := omega) only [↓xsP, ↓vc_seq, xsQ, xsT, xsR, xsD, ↓reduceIte, reduceCtorEq, eq_self, ne_eq, imp_self, forall_const, Nat.reduceEqDiff, Nat.reduceAdd, Nat.reduceSub, Nat.reduceMul, Nat.reduceLT, Nat.reduceLeDiff, Nat.reduceBEq, Nat.reduceDiv, Nat.reduceMod, Int.reduceToNat, Int.reduceNeg, Int.reduceAdd, Int.reduceSub, Int.reduceMul, Int.reduceEq, Int.reduceNe, Int.reduceLT, Int.reduceLE, Int.reduceGT, Int.reduceGE], by simp -implicitDefEqProofs (maxSteps := 1000000) (disch := omega) only [↓xsP, ↓vc_seq, xsQ, xsT, xsR, xsD, ↓reduceIte, reduceCtorEq, eq_self, ne_eq, imp_self, forall_const, Nat.reduceEqDiff, Nat.reduceAdd, Nat.reduceSub, Nat.reduceMul, Nat.reduceLT, Nat.reduceLeDiff, Nat.reduceBEq, Nat.reduceDiv, Nat.reduceMod, Int.reduceToNat, Int.reduceNeg, Int.reduceAdd, Int.reduceSub, Int.reduceMul, Int.reduceEq, Int.reduceNe, Int.reduceLT, Int.reduceLE, Int.reduceGT, Int.reduceGE, Int.natCast_add, Int.cast_ofNat_Int], rfl, hst0.symm, by rw [hst0]; simp; omega, rfl, hset.symm⟩
    · rintro r fr M' ⟨j, i, R, hij, hj, rfl, h0, h1, h5, h6, hR, hRt, hil, hRd, rfl⟩
      simp -implicitDefEqProofs (maxSteps := 1000000) (disch := omega) only [↓xsP, ↓vc_seq, xsQ, xsT, xsR, xsD, ↓reduceIte, reduceCtorEq, eq_self, ne_eq, imp_self, forall_const, Nat.reduceEqDiff, Nat.reduceAdd, Nat.reduceSub, Nat.reduceMul, Nat.reduceLT, Nat.reduceLeDiff, Nat.reduceBEq, Nat.reduceDiv, Nat.reduceMod, Int.reduceToNat, Int.reduceNeg, Int.reduceAdd, Int.reduceSub, Int.reduceMul, Int.reduceEq, Int.reduceNe, Int.reduceLT, Int.reduceLE, Int.reduceGT, Int.reduceGE, h0, h1, h5, h6]
      refine condI_prop (fun hlt => ?_) (fun hlt => ?_)
      · have hj' : j < l.length := by omega
        have hRj : R.getD j default = l.getD j default := by
          have := congrArg (fun x => x[0]?) hRd
          simp only [List.getElem?_drop, Nat.add_zero] at this
          rw [List.getD_eq_getElem?_getD, List.getD_eq_getElem?_getD, this]
        have hM' := Mem.set_eq M id (.cells 26 (R.map Pr.row) 0)
        have hold : ∀ j b, j ≠ id → M j = some b → (M.set id (.cells 26 (R.map Pr.row) 0)) j = some b := fun j b hj hb => by rw [Mem.set_ne _ _ _ _ (Ne.symm hj)]; exact hb
        generalize M.set id (.cells 26 (R.map Pr.row) 0) = N at hM' hold ⊢
        simp -implicitDefEqProofs (maxSteps := 1000000) (disch := omega) only [↓xsP, ↓vc_seq, xsQ, xsT, xsR, xsD, ↓reduceIte, reduceCtorEq, eq_self, ne_eq, imp_self, forall_const, Nat.reduceEqDiff, Nat.reduceAdd, Nat.reduceSub, Nat.reduceMul, Nat.reduceLT, Nat.reduceLeDiff, Nat.reduceBEq, Nat.reduceDiv, Nat.reduceMod, Int.reduceToNat, Int.reduceNeg, Int.reduceAdd, Int.reduceSub, Int.reduceMul, Int.reduceEq, Int.reduceNe, Int.reduceLT, Int.reduceLE, Int.reduceGT, Int.reduceGE, h0, h1, h5, h6, hM']
        refine newI_intro fun id7 hid7 => ?_
        have h7 : id < id7 := lt_of_bnd hid7 hM'
        simp -implicitDefEqProofs (maxSteps := 1000000) (disch := omega) only [↓xsP, ↓vc_seq, xsQ, xsT, xsR, xsD, ↓reduceIte, reduceCtorEq, eq_self, ne_eq, imp_self, forall_const, Nat.reduceEqDiff, Nat.reduceAdd, Nat.reduceSub, Nat.reduceMul, Nat.reduceLT, Nat.reduceLeDiff, Nat.reduceBEq, Nat.reduceDiv, Nat.reduceMod, Int.reduceToNat, Int.reduceNeg, Int.reduceAdd, Int.reduceSub, Int.reduceMul, Int.reduceEq, Int.reduceNe, Int.reduceLT, Int.reduceLE, Int.reduceGT, Int.reduceGE, h0, h1, h5, h6, hM', hRj]
        refine call_of (hq (l.getD j default) _ fun j' b hj' hb => ?_) ?_
        · have := hold j' b hj' hb
          rw [Mem.set_ne _ _ _ _ (by have := lt_of_bnd hid7 this; omega)]
          exact this
        · have hRd1 : R.drop (j + 1) = l.drop (j + 1) := by
            have := congrArg (List.drop 1) hRd
            simpa [List.drop_drop] using this
          have hsn := stays_snoc q l hj'
          have hiR : i < R.length := by omega
          cases hb : q (l.getD j default) with
          | true =>
            rw [hb, if_pos rfl, List.append_nil] at hsn
            simp -implicitDefEqProofs (maxSteps := 1000000) (disch := omega) only [↓xsP, ↓vc_seq, xsQ, xsT, xsR, xsD, ↓reduceIte, reduceCtorEq, eq_self, ne_eq, imp_self, forall_const, Nat.reduceEqDiff, Nat.reduceAdd, Nat.reduceSub, Nat.reduceMul, Nat.reduceLT, Nat.reduceLeDiff, Nat.reduceBEq, Nat.reduceDiv, Nat.reduceMod, Int.reduceToNat, Int.reduceNeg, Int.reduceAdd, Int.reduceSub, Int.reduceMul, Int.reduceEq, Int.reduceNe, Int.reduceLT, Int.reduceLE, Int.reduceGT, Int.reduceGE, h0, h1, h5, h6, hM']
            refine ⟨l.length - (j + 1), M.set id (.cells 26 (R.map Pr.row) 0), by omega, fun i' b hb' => ?_, j + 1, i, R, by omega, by omega, rfl, rfl, by simp, hR, by rw [hsn]; exact hRt, by rw [hsn]; exact hil, hRd1, rfl⟩
            have hN : N i' = some b := by
              rw [Mem.set_app] at hb'
              split at hb'
              · rename_i e; subst e; rw [hM']; exact hb'
              · rename_i e; exact hold _ _ (fun e' => e e'.symm) hb'
            rw [Mem.set_ne _ _ _ _ (by have := lt_of_bnd hid7 hN; omega)]
            exact hN
          | false =>
            rw [hb] at hsn
            simp only [Bool.false_eq_true, if_false] at hsn
            simp -implicitDefEqProofs (maxSteps := 1000000) (disch := omega) only [↓xsP, ↓vc_seq, xsQ, xsT, xsR, xsD, ↓reduceIte, reduceCtorEq, eq_self, ne_eq, imp_self, forall_const, Nat.reduceEqDiff, Nat.reduceAdd, Nat.reduceSub, Nat.reduceMul, Nat.reduceLT, Nat.reduceLeDiff, Nat.reduceBEq, Nat.reduceDiv, Nat.reduceMod, Int.reduceToNat, Int.reduceNeg, Int.reduceAdd, Int.reduceSub, Int.reduceMul, Int.reduceEq, Int.reduceNe, Int.reduceLT, Int.reduceLE, Int.reduceGT, Int.reduceGE, h0, h1, h5, h6, hM']
            have hset' : (R.map Pr.row).set i [.int .i64 (l.getD j default).key, .int .i64 (l.getD j default).val] = (R.set i (l.getD j default)).map Pr.row := by rw [List.map_set]; rfl
            rw [hset']
            refine ⟨l.length - (j + 1), M.set id (.cells 26 ((R.set i (l.getD j default)).map Pr.row) 0), by omega, fun i' b hb' => ?_, j + 1, i + 1, R.set i (l.getD j default), by omega, by omega, rfl, by simp, by simp, by simpa using hR, ?_, by rw [hsn, List.length_append, ← hil]; rfl, ?_, rfl⟩
            · rw [Mem.set_app] at hb' ⊢
              split at hb'
              · rename_i e; rw [if_pos e]; exact hb'
              · rename_i e
                rw [if_neg e]
                have hN := hold _ _ (fun e' => e e'.symm) hb'
                rw [Mem.set_ne _ _ _ _ (by have := lt_of_bnd hid7 hN; omega)]
                exact hN
            · rw [hsn, List.set_eq_take_append_cons_drop, if_pos hiR, List.take_append]
              have hlen : (R.take i).length = i := by simp; omega
              rw [hlen, List.take_of_length_le (by omega), ← hRt]
              have e1 : i + 1 - i = 1 := by omega
              rw [e1]
              rfl
            · rw [List.drop_set, if_pos (by omega)]
              exact hRd1
      · have hjl : j = l.length := by omega
        subst hjl
        rw [List.take_length] at hRt hil
        have hM' := Mem.set_eq M id (.cells 26 (R.map Pr.row) 0)
        have hile : (i ≤ l.length) = True := eq_true (by omega)
        have hi0 : (0 ≤ (i : Int)) = True := eq_true (by omega)
        by_cases hz : i = 0
        · subst hz
          simp -implicitDefEqProofs (maxSteps := 1000000) (disch := omega) only [↓xsP, ↓vc_seq, xsQ, xsT, xsR, xsD, ↓reduceIte, reduceCtorEq, eq_self, ne_eq, imp_self, forall_const, Nat.reduceEqDiff, Nat.reduceAdd, Nat.reduceSub, Nat.reduceMul, Nat.reduceLT, Nat.reduceLeDiff, Nat.reduceBEq, Nat.reduceDiv, Nat.reduceMod, Int.reduceToNat, Int.reduceNeg, Int.reduceAdd, Int.reduceSub, Int.reduceMul, Int.reduceEq, Int.reduceNe, Int.reduceLT, Int.reduceLE, Int.reduceGT, Int.reduceGE, h0, h1, h5, h6, hM', hile, hi0, hR]
          have hnil : stays q l = [] := List.eq_nil_of_length_eq_zero hil.symm
          refine finI_of (XFin.here ⟨List.replicate l.length ⟨0, 0⟩ ++ R.drop l.length, by rw [hnil]; rfl, by simp [Pr.row, List.map_drop], by rw [hnil]; rfl, by rw [hnil]; exact Nat.zero_le _⟩)
        · have hz' : (i = 0) = False := eq_false hz
          have hin : (i = l.length) = False := eq_false (by omega)
          simp -implicitDefEqProofs (maxSteps := 1000000) (disch := omega) only [↓xsP, ↓vc_seq, xsQ, xsT, xsR, xsD, ↓reduceIte, reduceCtorEq, eq_self, ne_eq, imp_self, forall_const, Nat.reduceEqDiff, Nat.reduceAdd, Nat.reduceSub, Nat.reduceMul, Nat.reduceLT, Nat.reduceLeDiff, Nat.reduceBEq, Nat.reduceDiv, Nat.reduceMod, Int.reduceToNat, Int.reduceNeg, Int.reduceAdd, Int.reduceSub, Int.reduceMul, Int.reduceEq, Int.reduceNe, Int.reduceLT, Int.reduceLE, Int.reduceGT, Int.reduceGE, h0, h1, h5, h6, hM', hile, hi0, hz', hin, hR]
          have hsum : (i + (l.length - i) ≤ l.length) = True := eq_true (by omega)
          simp -implicitDefEqProofs (maxSteps := 1000000) (disch := omega) only [↓xsP, ↓vc_seq, xsQ, xsT, xsR, xsD, ↓reduceIte, reduceCtorEq, eq_self, ne_eq, imp_self, forall_const, Nat.reduceEqDiff, Nat.reduceAdd, Nat.reduceSub, Nat.reduceMul, Nat.reduceLT, Nat.reduceLeDiff, Nat.reduceBEq, Nat.reduceDiv, Nat.reduceMod, Int.reduceToNat, Int.reduceNeg, Int.reduceAdd, Int.reduceSub, Int.reduceMul, Int.reduceEq, Int.reduceNe, Int.reduceLT, Int.reduceLE, Int.reduceGT, Int.reduceGE, h0, h1, h5, h6, hsum, hi0, hile, hz', hin]
          have hlen : (R.take i).length = i := by simp; omega
          refine finI_of (XFin.here ⟨R.take i ++ List.replicate (l.length - i) ⟨0, 0⟩ ++ R.drop (i + (l.length - i)), by rw [← hil], by simp [Pr.row, List.map_drop, List.map_take], ?_, by rw [← hil]; simp; omega⟩)
          rw [← hil, List.append_assoc, List.take_append, hlen, Nat.sub_self, List.take_zero, List.append_nil, List.take_of_length_le (by omega)]
          exact hRt
end Go.X

/- What leaf's functions on ranges do, and slices.Grow and slices.Concat. -/

set_option linter.unusedVariables false
set_option linter.unusedSimpArgs false
set_option maxHeartbeats 20000000
set_option maxRecDepth 100000
namespace Go.X
open Go.Proofs.Try (prog)

theorem delete_none (M : Mem) (f : FuncId) (caps : List Lf) (q : Pr → Bool) (hq : ∀ p, XCalls Go.Proofs.Try.prog f ([.agg p.row] ++ caps.map .l) M fun r M' => r = .l (.bool (q p)) ∧ M' = M) :
    XCalls Go.Proofs.Try.prog 65 [.l (.sl []), .l (.clo f caps)] M fun r M' => r = .l (.sl []) ∧ M' = M := by
  refine xcalls_intro (rs := [.tmp 4]) Go.Proofs.Try.func65 rfl (by kernel_rfl) rfl rfl (by kernel_rfl) (by simp) ?_
  simp -implicitDefEqProofs (maxSteps := 1000000) (disch := omega) only [↓xsP, ↓vc_seq, xsQ, xsT, xsR, xsD, ↓reduceIte, reduceCtorEq, eq_self, ne_eq, imp_self, forall_const, Nat.reduceEqDiff, Nat.reduceAdd, Nat.reduceSub, Nat.reduceMul, Nat.reduceLT, Nat.reduceLeDiff, Nat.reduceBEq, Nat.reduceDiv, Nat.reduceMod, Int.reduceToNat, Int.reduceNeg, Int.reduceAdd, Int.reduceSub, Int.reduceMul, Int.reduceEq, Int.reduceNe, Int.reduceLT, Int.reduceLE, Int.reduceGT, Int.reduceGE]
  refine call_of (index_spec [] (by simp) _ _ (.inl rfl) _ _ q hq) ?_
  simp -implicitDefEqProofs (maxSteps := 1000000) (disch := omega) only [↓xsP, ↓vc_seq, xsQ, xsT, xsR, xsD, ↓reduceIte, reduceCtorEq, eq_self, ne_eq, imp_self, forall_const, Nat.reduceEqDiff, Nat.reduceAdd, Nat.reduceSub, Nat.reduceMul, Nat.reduceLT, Nat.reduceLeDiff, Nat.reduceBEq, Nat.reduceDiv, Nat.reduceMod, Int.reduceToNat, Int.reduceNeg, Int.reduceAdd, Int.reduceSub, Int.reduceMul, Int.reduceEq, Int.reduceNe, Int.reduceLT, Int.reduceLE, Int.reduceGT, Int.reduceGE, pidx]
  exact fin_ok (Mem.le_refl _) ⟨rfl, rfl⟩

def outside (lo hi : Int) (p : Pr) : Bool := decide (p.key < lo) || decide (p.key > hi)
theorem within_spec (l : List Pr) (hl : l.length ≤ 1000001) (lo hi : Int) (M : Mem) :
    XCalls Go.Proofs.Try.prog 62 [.l (.sl (l.map Pr.row)), .l (.int .i64 lo), .l (.int .i64 hi)] M fun r M' => r = .l (.sl ((stays (outside lo hi) l).map Pr.row)) ∧ M' = M := by
  refine xcalls_intro (rs := [.tmp 6]) Go.Proofs.Try.func62 rfl (by kernel_rfl) rfl rfl (by kernel_rfl) (by simp) ?_
  simp -implicitDefEqProofs (maxSteps := 1000000) (disch := omega) only [↓xsP, ↓vc_seq, xsQ, xsT, xsR, xsD, ↓reduceIte, reduceCtorEq, eq_self, ne_eq, imp_self, forall_const, Nat.reduceEqDiff, Nat.reduceAdd, Nat.reduceSub, Nat.reduceMul, Nat.reduceLT, Nat.reduceLeDiff, Nat.reduceBEq, Nat.reduceDiv, Nat.reduceMod, Int.reduceToNat, Int.reduceNeg, Int.reduceAdd, Int.reduceSub, Int.reduceMul, Int.reduceEq, Int.reduceNe, Int.reduceLT, Int.reduceLE, Int.reduceGT, Int.reduceGE]
  refine newI_intro fun a ha => ?_
  simp -implicitDefEqProofs (maxSteps := 1000000) (disch := omega) only [↓xsP, ↓vc_seq, xsQ, xsT, xsR, xsD, ↓reduceIte, reduceCtorEq, eq_self, ne_eq, imp_self, forall_const, Nat.reduceEqDiff, Nat.reduceAdd, Nat.reduceSub, Nat.reduceMul, Nat.reduceLT, Nat.reduceLeDiff, Nat.reduceBEq, Nat.reduceDiv, Nat.reduceMod, Int.reduceToNat, Int.reduceNeg, Int.reduceAdd, Int.reduceSub, Int.reduceMul, Int.reduceEq, Int.reduceNe, Int.reduceLT, Int.reduceLE, Int.reduceGT, Int.reduceGE]
  refine newI_intro fun b hb => ?_
  obtain ⟨hab, hb⟩ := bnd_new hb
  simp -implicitDefEqProofs (maxSteps := 1000000) (disch := omega) only [↓xsP, ↓vc_seq, xsQ, xsT, xsR, xsD, ↓reduceIte, reduceCtorEq, eq_self, ne_eq, imp_self, forall_const, Nat.reduceEqDiff, Nat.reduceAdd, Nat.reduceSub, Nat.reduceMul, Nat.reduceLT, Nat.reduceLeDiff, Nat.reduceBEq, Nat.reduceDiv, Nat.reduceMod, Int.reduceToNat, Int.reduceNeg, Int.reduceAdd, Int.reduceSub, Int.reduceMul, Int.reduceEq, Int.reduceNe, Int.reduceLT, Int.reduceLE, Int.reduceGT, Int.reduceGE]
  refine callI_of ((clone_live l hl _).mono ?_)
  rintro r M1 (⟨rfl, rfl, rfl⟩ | ⟨id, hid, rfl, rfl⟩)
  · simp -implicitDefEqProofs (maxSteps := 1000000) (disch := omega) only [↓xsP, ↓vc_seq, xsQ, xsT, xsR, xsD, ↓reduceIte, reduceCtorEq, eq_self, ne_eq, imp_self, forall_const, Nat.reduceEqDiff, Nat.reduceAdd, Nat.reduceSub, Nat.reduceMul, Nat.reduceLT, Nat.reduceLeDiff, Nat.reduceBEq, Nat.reduceDiv, Nat.reduceMod, Int.reduceToNat, Int.reduceNeg, Int.reduceAdd, Int.reduceSub, Int.reduceMul, Int.reduceEq, Int.reduceNe, Int.reduceLT, Int.reduceLE, Int.reduceGT, Int.reduceGE]
    refine callI_of (XCalls.wk ?_)
    refine (delete_none _ _ _ (outside lo hi) fun p => withinClo_spec (keep := 0) (keep' := 0) p a b lo hi _ ?_ ?_).mono ?_
    · rw [Mem.set_ne _ _ _ _ (by omega)]; exact Mem.set_eq _ _ _
    · exact Mem.set_eq _ _ _
    · rintro _ _ ⟨rfl, rfl⟩
      simp -implicitDefEqProofs (maxSteps := 1000000) (disch := omega) only [↓xsP, ↓vc_seq, xsQ, xsT, xsR, xsD, ↓reduceIte, reduceCtorEq, eq_self, ne_eq, imp_self, forall_const, Nat.reduceEqDiff, Nat.reduceAdd, Nat.reduceSub, Nat.reduceMul, Nat.reduceLT, Nat.reduceLeDiff, Nat.reduceBEq, Nat.reduceDiv, Nat.reduceMod, Int.reduceToNat, Int.reduceNeg, Int.reduceAdd, Int.reduceSub, Int.reduceMul, Int.reduceEq, Int.reduceNe, Int.reduceLT, Int.reduceLE, Int.reduceGT, Int.reduceGE]
      exact fin_ok (le_new (le_new (Mem.le_refl _) ha) hb) ⟨rfl, rfl⟩
  · obtain ⟨hbi, hid⟩ := bnd_new hid
    obtain ⟨hai, hid⟩ := bnd_new hid
    simp -implicitDefEqProofs (maxSteps := 1000000) (disch := omega) only [↓xsP, ↓vc_seq, xsQ, xsT, xsR, xsD, ↓reduceIte, reduceCtorEq, eq_self, ne_eq, imp_self, forall_const, Nat.reduceEqDiff, Nat.reduceAdd, Nat.reduceSub, Nat.reduceMul, Nat.reduceLT, Nat.reduceLeDiff, Nat.reduceBEq, Nat.reduceDiv, Nat.reduceMod, Int.reduceToNat, Int.reduceNeg, Int.reduceAdd, Int.reduceSub, Int.reduceMul, Int.reduceEq, Int.reduceNe, Int.reduceLT, Int.reduceLE, Int.reduceGT, Int.reduceGE]
    refine callI_of ((delete_spec l hl id _ (Mem.set_eq _ _ _) _ _ (outside lo hi) fun p M' h => withinClo_spec (keep := 0) (keep' := 0) p a b lo hi _ (h a _ (by omega) ?_) (h b _ (by omega) ?_)).mono ?_)
    · rw [Mem.set_ne _ _ _ _ (by omega), Mem.set_ne _ _ _ _ (by omega)]; exact Mem.set_eq _ _ _
    · rw [Mem.set_ne _ _ _ _ (by omega)]; exact Mem.set_eq _ _ _
    · rintro _ _ ⟨R, rfl, rfl, hR, hRl⟩
      simp -implicitDefEqProofs (maxSteps := 1000000) (disch := omega) only [↓xsP, ↓vc_seq, xsQ, xsT, xsR, xsD, ↓reduceIte, reduceCtorEq, eq_self, ne_eq, imp_self, forall_const, Nat.reduceEqDiff, Nat.reduceAdd, Nat.reduceSub, Nat.reduceMul, Nat.reduceLT, Nat.reduceLeDiff, Nat.reduceBEq, Nat.reduceDiv, Nat.reduceMod, Int.reduceToNat, Int.reduceNeg, Int.reduceAdd, Int.reduceSub, Int.reduceMul, Int.reduceEq, Int.reduceNe, Int.reduceLT, Int.reduceLE, Int.reduceGT, Int.reduceGE]
      refine finI_of (XFin.frz id (Mem.set_eq _ _ _) (XFin.le ?_ ⟨?_, rfl⟩))
      · intro i x hx
        have hi := lt_of_bnd ha hx
        simp only [Mem.set_app]
        (repeat rw [if_neg (by omega)])
        exact hx
      · simp [frzA, frz1, frzL, hRl, ← List.map_take, hR]

/-- Room for so many pairs. -/
theorem grow_spec (n : Nat) (hn : n ≤ 2000002) (M : Mem) :
    XCalls Go.Proofs.Try.prog 72 [.l .nils, .l (.int .i64 n)] M fun r M' => (r = .l .nils ∧ n = 0 ∧ M' = M) ∨ ∃ id, (∀ j, id ≤ j → M j = none) ∧ r = .l (.ms id 0 0) ∧ M' = M.set id (.cells 26 (List.replicate n [.int .i64 0, .int .i64 0]) 0) := by
  refine xcalls_intro (rs := [.tmp 4]) Go.Proofs.Try.func72 rfl (by kernel_rfl) rfl rfl (by kernel_rfl) (by simp) ?_
  have h0 : ((n : Int) < 0) = False := eq_false (by omega)
  simp -implicitDefEqProofs (maxSteps := 1000000) (disch := omega) only [↓xsP, ↓vc_seq, xsQ, xsT, xsR, xsD, ↓reduceIte, reduceCtorEq, eq_self, ne_eq, imp_self, forall_const, Nat.reduceEqDiff, Nat.reduceAdd, Nat.reduceSub, Nat.reduceMul, Nat.reduceLT, Nat.reduceLeDiff, Nat.reduceBEq, Nat.reduceDiv, Nat.reduceMod, Int.reduceToNat, Int.reduceNeg, Int.reduceAdd, Int.reduceSub, Int.reduceMul, Int.reduceEq, Int.reduceNe, Int.reduceLT, Int.reduceLE, Int.reduceGT, Int.reduceGE, h0]
  have hn0 : (n : Int) - 0 = n := by omega
  rw [hn0]
  refine condI_prop (fun hp => ?_) (fun hp => ?_)
  · simp -implicitDefEqProofs (maxSteps := 1000000) (disch := omega) only [↓xsP, ↓vc_seq, xsQ, xsT, xsR, xsD, ↓reduceIte, reduceCtorEq, eq_self, ne_eq, imp_self, forall_const, Nat.reduceEqDiff, Nat.reduceAdd, Nat.reduceSub, Nat.reduceMul, Nat.reduceLT, Nat.reduceLeDiff, Nat.reduceBEq, Nat.reduceDiv, Nat.reduceMod, Int.reduceToNat, Int.reduceNeg, Int.reduceAdd, Int.reduceSub, Int.reduceMul, Int.reduceEq, Int.reduceNe, Int.reduceLT, Int.reduceLE, Int.reduceGT, Int.reduceGE]
    refine app_zeros _ _ _ _ 26 _ _ _ ti_27 rfl ti_3 rfl ti_26 (by kernel_rfl) rfl rfl (by decide) _ (by omega) ?_ (by omega) fun id hid => ?_
    · exact Nat.le_trans (Nat.mul_le_mul_right _ (show (n : Int).toNat ≤ 2000002 by omega)) (by decide)
    · simp -implicitDefEqProofs (maxSteps := 1000000) (disch := omega) only [↓xsP, ↓vc_seq, xsQ, xsT, xsR, xsD, ↓reduceIte, reduceCtorEq, eq_self, ne_eq, imp_self, forall_const, Nat.reduceEqDiff, Nat.reduceAdd, Nat.reduceSub, Nat.reduceMul, Nat.reduceLT, Nat.reduceLeDiff, Nat.reduceBEq, Nat.reduceDiv, Nat.reduceMod, Int.reduceToNat, Int.reduceNeg, Int.reduceAdd, Int.reduceSub, Int.reduceMul, Int.reduceEq, Int.reduceNe, Int.reduceLT, Int.reduceLE, Int.reduceGT, Int.reduceGE]
      refine finI_of (XFin.here (.inr ⟨id, hid, rfl, rfl⟩))
  · simp -implicitDefEqProofs (maxSteps := 1000000) (disch := omega) only [↓xsP, ↓vc_seq, xsQ, xsT, xsR, xsD, ↓reduceIte, reduceCtorEq, eq_self, ne_eq, imp_self, forall_const, Nat.reduceEqDiff, Nat.reduceAdd, Nat.reduceSub, Nat.reduceMul, Nat.reduceLT, Nat.reduceLeDiff, Nat.reduceBEq, Nat.reduceDiv, Nat.reduceMod, Int.reduceToNat, Int.reduceNeg, Int.reduceAdd, Int.reduceSub, Int.reduceMul, Int.reduceEq, Int.reduceNe, Int.reduceLT, Int.reduceLE, Int.reduceGT, Int.reduceGE]
    have : n = 0 := by omega
    exact fin_ok (Mem.le_refl _) (.inl ⟨rfl, this, rfl⟩)

/-! ### slices.Concat -/
theorem lenA_src {M : Mem} {s : Lf} {l : List Pr} (h : SrcIs M s l) : lenA Go.Proofs.Try.prog M 27 (.l s) = some (.l (.int .i64 l.length)) := by
  rcases h with rfl | ⟨id, keep, rfl, hM⟩ <;> simp -implicitDefEqProofs (maxSteps := 1000000) (disch := omega) only [↓xsP, ↓vc_seq, xsQ, xsT, xsR, xsD, ↓reduceIte, reduceCtorEq, eq_self, ne_eq, imp_self, forall_const, Nat.reduceEqDiff, Nat.reduceAdd, Nat.reduceSub, Nat.reduceMul, Nat.reduceLT, Nat.reduceLeDiff, Nat.reduceBEq, Nat.reduceDiv, Nat.reduceMod, Int.reduceToNat, Int.reduceNeg, Int.reduceAdd, Int.reduceSub, Int.reduceMul, Int.reduceEq, Int.reduceNe, Int.reduceLT, Int.reduceLE, Int.reduceGT, Int.reduceGE]
theorem src_src {M : Mem} {s : Lf} {l : List Pr} (h : SrcIs M s l) {te : TI} (hs : te.size = 2) : srcRows Go.Proofs.Try.prog M 27 27 26 te (.l s) = some (l.map Pr.row) := by
  rcases h with rfl | ⟨id, keep, rfl, hM⟩
  · simp -implicitDefEqProofs (maxSteps := 1000000) (disch := omega) only [↓xsP, ↓vc_seq, xsQ, xsT, xsR, xsD, ↓reduceIte, reduceCtorEq, eq_self, ne_eq, imp_self, forall_const, Nat.reduceEqDiff, Nat.reduceAdd, Nat.reduceSub, Nat.reduceMul, Nat.reduceLT, Nat.reduceLeDiff, Nat.reduceBEq, Nat.reduceDiv, Nat.reduceMod, Int.reduceToNat, Int.reduceNeg, Int.reduceAdd, Int.reduceSub, Int.reduceMul, Int.reduceEq, Int.reduceNe, Int.reduceLT, Int.reduceLE, Int.reduceGT, Int.reduceGE]
    rw [hs, if_pos (rows2 l)]
  · simp -implicitDefEqProofs (maxSteps := 1000000) (disch := omega) only [↓xsP, ↓vc_seq, xsQ, xsT, xsR, xsD, ↓reduceIte, reduceCtorEq, eq_self, ne_eq, imp_self, forall_const, Nat.reduceEqDiff, Nat.reduceAdd, Nat.reduceSub, Nat.reduceMul, Nat.reduceLT, Nat.reduceLeDiff, Nat.reduceBEq, Nat.reduceDiv, Nat.reduceMod, Int.reduceToNat, Int.reduceNeg, Int.reduceAdd, Int.reduceSub, Int.reduceMul, Int.reduceEq, Int.reduceNe, Int.reduceLT, Int.reduceLE, Int.reduceGT, Int.reduceGE, hM]
    rw [List.take_of_length_le (by simp)]
theorem app_src {M : Mem} {s : Lf} {l : List Pr} (h : SrcIs M s l) {id len : Nat} {rows : List (List Lf)} {keep : Nat} (hM : M id = some (.cells 26 rows keep)) (hlen : len ≤ rows.length) (hk : keep ≤ len) (hb : len + l.length ≤ 2000002) {K : AV → Mem → Prop}
    (hc : ∀ id', (∀ j, id' ≤ j → M j = none) → K (.l (.ms id' 0 (len + l.length))) ((M.del id).set id' (.cells 26 (rows.take len ++ l.map Pr.row) keep))) :
    @appI Go.Proofs.Try.prog M 27 27 (.l (.ms id 0 len)) (.l s) ⟨K⟩ := by
  refine app_ms _ _ _ _ 26 _ _ ti_27 rfl ti_26 (by kernel_rfl) (by decide) id len _ (rows := rows) (keep := keep) (l.map Pr.row) hM (src_src h rfl) hlen hk ?_ ?_ ?_
  · exact Nat.le_trans (Nat.mul_le_mul_right _ (show len + (l.map Pr.row).length ≤ 2000002 by simpa using hb)) (by decide)
  · simp
    omega
  · simpa using hc
theorem app_src_nil {M : Mem} {s : Lf} (h : SrcIs M s []) {K : AV → Mem → Prop} (hc : K (.l .nils) M) : @appI Go.Proofs.Try.prog M 27 27 (.l .nils) (.l s) ⟨K⟩ :=
  app_nils _ _ _ _ 26 _ _ ti_27 rfl ti_26 (by kernel_rfl) (by decide) _ [] (src_src h rfl) (by simp) (by simp) (fun _ => hc) (fun h => absurd rfl h)

/-- So many pairs in the first rows. -/
def tot (L : List (List Pr)) : Nat := L.flatten.length
theorem tot_take {L : List (List Pr)} {i : Nat} (hi : i < L.length) : (L.take (i + 1)).flatten = (L.take i).flatten ++ L.getD i [] := by
  rw [List.take_add_one, List.flatten_append, List.getD_eq_getElem?_getD, List.getElem?_eq_getElem hi]
  simp
theorem tot_le (L : List (List Pr)) (i : Nat) : (L.take i).flatten.length ≤ L.flatten.length := by
  conv => rhs; rw [← List.take_append_drop i L]
  rw [List.flatten_append, List.length_append]
  omega
theorem concat_spec (L : List (List Pr)) (srcs : List Lf) (hlen : srcs.length = L.length) (hln : L.length ≤ 1000) (htot : L.flatten.length ≤ 2000002) (ids : Nat) (M : Mem) {keep : Nat} (hM : M ids = some (.cells 27 (srcs.map fun s => [s]) keep)) (hsrc : ∀ i, i < L.length → SrcIs M (srcs.getD i .nils) (L.getD i [])) :
    XCalls Go.Proofs.Try.prog 69 [.l (.ms ids 0 L.length)] M fun r M' => r = .l (.sl (L.flatten.map Pr.row)) ∧ M' = M := by
  refine xcalls_intro (rs := [.tmp 2]) Go.Proofs.Try.func69 rfl (by kernel_rfl) rfl rfl (by kernel_rfl) (by simp) ?_
  refine vc_seq_of ?_
  simp -implicitDefEqProofs (maxSteps := 1000000) (disch := omega) only [↓xsP, xsQ, xsT, xsR, xsD, ↓reduceIte, reduceCtorEq, eq_self, ne_eq, imp_self, forall_const, Nat.reduceEqDiff, Nat.reduceAdd, Nat.reduceSub, Nat.reduceMul, Nat.reduceLT, Nat.reduceLeDiff, Nat.reduceBEq, Nat.reduceDiv, Nat.reduceMod, Int.reduceToNat, Int.reduceNeg, Int.reduceAdd, Int.reduceSub, Int.reduceMul, Int.reduceEq, Int.reduceNe, Int.reduceLT, Int.reduceLE, Int.reduceGT, Int.reduceGE]
  refine vc_seq_of ?_
  simp -implicitDefEqProofs (maxSteps := 1000000) (disch := omega) only [↓xsP, xsQ, xsT, xsR, xsD, ↓reduceIte, reduceCtorEq, eq_self, ne_eq, imp_self, forall_const, Nat.reduceEqDiff, Nat.reduceAdd, Nat.reduceSub, Nat.reduceMul, Nat.reduceLT, Nat.reduceLeDiff, Nat.reduceBEq, Nat.reduceDiv, Nat.reduceMod, Int.reduceToNat, Int.reduceNeg, Int.reduceAdd, Int.reduceSub, Int.reduceMul, Int.reduceEq, Int.reduceNe, Int.reduceLT, Int.reduceLE, Int.reduceGT, Int.reduceGE]
  have hget : ∀ i, i < L.length → (srcs.map fun s => [s])[i]? = some [srcs.getD i .nils] := fun i hi => by
    rw [List.getElem?_map, List.getElem?_eq_getElem (by omega), List.getD_eq_getElem?_getD, List.getElem?_eq_getElem (by omega)]
    rfl
  refine vc_cut (fun fr N => N = M ∧ fr 0 = .l (.ms ids 0 L.length) ∧ fr 3 = .l (.int .i64 L.flatten.length)) ?_ ?_
  · simp -implicitDefEqProofs (maxSteps := 1000000) (disch := omega) only [↓xsP, ↓vc_seq, xsQ, xsT, xsR, xsD, ↓reduceIte, reduceCtorEq, eq_self, ne_eq, imp_self, forall_const, Nat.reduceEqDiff, Nat.reduceAdd, Nat.reduceSub, Nat.reduceMul, Nat.reduceLT, Nat.reduceLeDiff, Nat.reduceBEq, Nat.reduceDiv, Nat.reduceMod, Int.reduceToNat, Int.reduceNeg, Int.reduceAdd, Int.reduceSub, Int.reduceMul, Int.reduceEq, Int.reduceNe, Int.reduceLT, Int.reduceLE, Int.reduceGT, Int.reduceGE]
    refine loopI_of (xloop (by kernel_rfl) (fun k fr M' => ∃ i : Nat, i ≤ L.length ∧ k = L.length - i ∧ fr 0 = .l (.ms ids 0 L.length) ∧ fr 3 = .l (.int .i64 (L.take i).flatten.length) ∧ fr 9 = .l (.ms ids 0 L.length) ∧ fr 10 = .l (.int .i64 L.length) ∧ fr 11 = .l (.int .i64 i) ∧ M' = M) L.length ?_ ?_)
    · exact ⟨0, Nat.zero_le _, rfl, by simp -implicitDefEqProofs (maxSteps := 1000000) (disch := omega) only [↓xsP, ↓vc_seq, xsQ, xsT, xsR, xsD, ↓reduceIte, reduceCtorEq, eq_self, ne_eq, imp_self, forall_const, Nat.reduceEqDiff, Nat.reduceAdd, Nat.reduceSub, Nat.reduceMul, Nat.reduceLT, Nat.reduceLeDiff, Nat.reduceBEq, Nat.reduceDiv, Nat.reduceMod, Int.reduceToNat, Int.reduceNeg, Int.reduceAdd, Int.reduceSub, Int.reduceMul, Int.reduceEq, Int.reduceNe, Int.reduceLT, Int.reduceLE, Int.reduceGT, Int.reduceGE], by simp -implicitDefEqProofs (maxSteps := 1000000) (disch := omega) only [↓xsP, ↓vc_seq, xsQ, xsT, xsR, xsD, ↓reduceIte, reduceCtorEq, eq_self, ne_eq, imp_self, forall_const, Nat.reduceEqDiff, Nat.reduceAdd, Nat.reduceSub, Nat.reduceMul, Nat.reduceLT, Nat.reduceLeDiff, Nat.reduceBEq, Nat.reduceDiv, Nat.reduceMod, Int.reduceToNat, Int.reduceNeg, Int.reduceAdd, Int.reduceSub, Int.reduceMul, Int.reduceEq, Int.reduceNe, Int.reduceLT, Int.reduceLE, Int.reduceGT, Int.reduceGE, Int.cast_ofNat_Int], by simp -implicitDefEqProofs (maxSteps := 1000000) (disch := omega) only [↓xsP, ↓vc_seq, xsQ, xsT, xsR, xsD, ↓reduceIte, reduceCtorEq, eq_self, ne_eq, imp_self, forall_const, Nat.reduceEqDiff, Nat.reduceAdd, Nat.reduceSub, Nat.reduceMul, Nat.reduceLT, Nat.reduceLeDiff, Nat.reduceBEq, Nat.reduceDiv, Nat.reduceMod, Int.reduceToNat, Int.reduceNeg, Int.reduceAdd, Int.reduceSub, Int.reduceMul, Int.reduceEq, Int.reduceNe, Int.reduceLT, Int.reduceLE, Int.reduceGT, Int.reduceGE], by simp -implicitDefEqProofs (maxSteps := 1000000) (disch := omega) only [↓xsP, ↓vc_seq, xsQ, xsT, xsR, xsD, ↓reduceIte, reduceCtorEq, eq_self, ne_eq, imp_self, forall_const, Nat.reduceEqDiff, Nat.reduceAdd, Nat.reduceSub, Nat.reduceMul, Nat.reduceLT, Nat.reduceLeDiff, Nat.reduceBEq, Nat.reduceDiv, Nat.reduceMod, Int.reduceToNat, Int.reduceNeg, Int.reduceAdd, Int.reduceSub, Int.reduceMul, Int.reduceEq, Int.reduceNe, Int.reduceLT, Int.reduceLE, Int.reduceGT, Int.reduceGE], by simp -implicitDefEqProofs (maxSteps := 1000000) (disch := omega) only [↓xsP, ↓vc_seq, xsQ, xsT, xsR, xsD, ↓reduceIte, reduceCtorEq, eq_self, ne_eq, imp_self, forall_const, Nat.reduceEqDiff, Nat.reduceAdd, Nat.reduceSub, Nat.reduceMul, Nat.reduceLT, Nat.reduceLeDiff, Nat.reduceBEq, Nat.reduceDiv, Nat.reduceMod, Int.reduceToNat, Int.reduceNeg, Int.reduceAdd, Int.reduceSub, Int.reduceMul, Int.reduceEq, Int.reduceNe, Int.reduceLT, Int.reduceLE, Int.reduceGT, Int.reduceGE, Int.cast_ofNat_Int], rfl⟩
    · rintro k fr M' ⟨i, hi, rfl, h0, h3, h9, h10, h11, rfl⟩
      simp -implicitDefEqProofs (maxSteps := 1000000) (disch := omega) only [↓xsP, ↓vc_seq, xsQ, xsT, xsR, xsD, ↓reduceIte, reduceCtorEq, eq_self, ne_eq, imp_self, forall_const, Nat.reduceEqDiff, Nat.reduceAdd, Nat.reduceSub, Nat.reduceMul, Nat.reduceLT, Nat.reduceLeDiff, Nat.reduceBEq, Nat.reduceDiv, Nat.reduceMod, Int.reduceToNat, Int.reduceNeg, Int.reduceAdd, Int.reduceSub, Int.reduceMul, Int.reduceEq, Int.reduceNe, Int.reduceLT, Int.reduceLE, Int.reduceGT, Int.reduceGE, h0, h3, h9, h10, h11]
      refine condI_prop (fun hlt => ?_) (fun hlt => ?_)
      · have hi' : i < L.length := by omega
        have hg := hget i hi'
        have hs := hsrc i hi'
        have ht := tot_take hi'
        have htl := tot_le L (i + 1)
        rw [ht, List.length_append] at htl
        rcases hs with es | ⟨ids2, kp, es, hMs⟩
        · simp -implicitDefEqProofs (maxSteps := 1000000) (disch := omega) only [↓xsP, ↓vc_seq, xsQ, xsT, xsR, xsD, ↓reduceIte, reduceCtorEq, eq_self, ne_eq, imp_self, forall_const, Nat.reduceEqDiff, Nat.reduceAdd, Nat.reduceSub, Nat.reduceMul, Nat.reduceLT, Nat.reduceLeDiff, Nat.reduceBEq, Nat.reduceDiv, Nat.reduceMod, Int.reduceToNat, Int.reduceNeg, Int.reduceAdd, Int.reduceSub, Int.reduceMul, Int.reduceEq, Int.reduceNe, Int.reduceLT, Int.reduceLE, Int.reduceGT, Int.reduceGE, h0, h3, h9, h10, h11, hM, hg, es]
          have hneg : (((L.take i).flatten.length : Int) + ((L.getD i []).length : Int) < 0) = False := eq_false (by omega)
          simp -implicitDefEqProofs (maxSteps := 1000000) (disch := omega) only [↓xsP, ↓vc_seq, xsQ, xsT, xsR, xsD, ↓reduceIte, reduceCtorEq, eq_self, ne_eq, imp_self, forall_const, Nat.reduceEqDiff, Nat.reduceAdd, Nat.reduceSub, Nat.reduceMul, Nat.reduceLT, Nat.reduceLeDiff, Nat.reduceBEq, Nat.reduceDiv, Nat.reduceMod, Int.reduceToNat, Int.reduceNeg, Int.reduceAdd, Int.reduceSub, Int.reduceMul, Int.reduceEq, Int.reduceNe, Int.reduceLT, Int.reduceLE, Int.reduceGT, Int.reduceGE, h0, h3, h9, h10, h11, hM, hg, es, hneg]
          exact ⟨L.length - (i + 1), M', by omega, Mem.le_refl _, i + 1, by omega, rfl, by rw [ht]; simp, by simp, rfl⟩
        · simp -implicitDefEqProofs (maxSteps := 1000000) (disch := omega) only [↓xsP, ↓vc_seq, xsQ, xsT, xsR, xsD, ↓reduceIte, reduceCtorEq, eq_self, ne_eq, imp_self, forall_const, Nat.reduceEqDiff, Nat.reduceAdd, Nat.reduceSub, Nat.reduceMul, Nat.reduceLT, Nat.reduceLeDiff, Nat.reduceBEq, Nat.reduceDiv, Nat.reduceMod, Int.reduceToNat, Int.reduceNeg, Int.reduceAdd, Int.reduceSub, Int.reduceMul, Int.reduceEq, Int.reduceNe, Int.reduceLT, Int.reduceLE, Int.reduceGT, Int.reduceGE, h0, h3, h9, h10, h11, hM, hg, es]
          have hneg : (((L.take i).flatten.length : Int) + ((L.getD i []).length : Int) < 0) = False := eq_false (by omega)
          simp -implicitDefEqProofs (maxSteps := 1000000) (disch := omega) only [↓xsP, ↓vc_seq, xsQ, xsT, xsR, xsD, ↓reduceIte, reduceCtorEq, eq_self, ne_eq, imp_self, forall_const, Nat.reduceEqDiff, Nat.reduceAdd, Nat.reduceSub, Nat.reduceMul, Nat.reduceLT, Nat.reduceLeDiff, Nat.reduceBEq, Nat.reduceDiv, Nat.reduceMod, Int.reduceToNat, Int.reduceNeg, Int.reduceAdd, Int.reduceSub, Int.reduceMul, Int.reduceEq, Int.reduceNe, Int.reduceLT, Int.reduceLE, Int.reduceGT, Int.reduceGE, h0, h3, h9, h10, h11, hM, hg, es, hneg]
          exact ⟨L.length - (i + 1), M', by omega, Mem.le_refl _, i + 1, by omega, rfl, by rw [ht]; simp, by simp, rfl⟩
      · simp -implicitDefEqProofs (maxSteps := 1000000) (disch := omega) only [↓xsP, ↓vc_seq, xsQ, xsT, xsR, xsD, ↓reduceIte, reduceCtorEq, eq_self, ne_eq, imp_self, forall_const, Nat.reduceEqDiff, Nat.reduceAdd, Nat.reduceSub, Nat.reduceMul, Nat.reduceLT, Nat.reduceLeDiff, Nat.reduceBEq, Nat.reduceDiv, Nat.reduceMod, Int.reduceToNat, Int.reduceNeg, Int.reduceAdd, Int.reduceSub, Int.reduceMul, Int.reduceEq, Int.reduceNe, Int.reduceLT, Int.reduceLE, Int.reduceGT, Int.reduceGE, h0, h3, h9, h10, h11]
        have hil : i = L.length := by omega
        rw [hil, List.take_length]
  · rintro fr N ⟨rfl, h0, h3⟩
    refine vc_cut (fun fr M1 => fr 0 = .l (.ms ids 0 L.length) ∧ ((L.flatten = [] ∧ fr 6 = .l .nils ∧ M1 = N) ∨ ∃ idR rows, (∀ j, idR ≤ j → N j = none) ∧ fr 6 = .l (.ms idR 0 0) ∧ M1 = N.set idR (.cells 26 rows 0))) ?_ ?_
    · simp -implicitDefEqProofs (maxSteps := 1000000) (disch := omega) only [↓xsP, ↓vc_seq, xsQ, xsT, xsR, xsD, ↓reduceIte, reduceCtorEq, eq_self, ne_eq, imp_self, forall_const, Nat.reduceEqDiff, Nat.reduceAdd, Nat.reduceSub, Nat.reduceMul, Nat.reduceLT, Nat.reduceLeDiff, Nat.reduceBEq, Nat.reduceDiv, Nat.reduceMod, Int.reduceToNat, Int.reduceNeg, Int.reduceAdd, Int.reduceSub, Int.reduceMul, Int.reduceEq, Int.reduceNe, Int.reduceLT, Int.reduceLE, Int.reduceGT, Int.reduceGE, h0, h3]
      refine callI_of ((grow_spec L.flatten.length htot _).mono ?_)
      rintro r M1 (⟨rfl, h2, rfl⟩ | ⟨id, h1, rfl, rfl⟩)
      · simp -implicitDefEqProofs (maxSteps := 1000000) (disch := omega) only [↓xsP, ↓vc_seq, xsQ, xsT, xsR, xsD, ↓reduceIte, reduceCtorEq, eq_self, ne_eq, imp_self, forall_const, Nat.reduceEqDiff, Nat.reduceAdd, Nat.reduceSub, Nat.reduceMul, Nat.reduceLT, Nat.reduceLeDiff, Nat.reduceBEq, Nat.reduceDiv, Nat.reduceMod, Int.reduceToNat, Int.reduceNeg, Int.reduceAdd, Int.reduceSub, Int.reduceMul, Int.reduceEq, Int.reduceNe, Int.reduceLT, Int.reduceLE, Int.reduceGT, Int.reduceGE, h0, h3]
        exact .inl (List.eq_nil_of_length_eq_zero h2)
      · simp -implicitDefEqProofs (maxSteps := 1000000) (disch := omega) only [↓xsP, ↓vc_seq, xsQ, xsT, xsR, xsD, ↓reduceIte, reduceCtorEq, eq_self, ne_eq, imp_self, forall_const, Nat.reduceEqDiff, Nat.reduceAdd, Nat.reduceSub, Nat.reduceMul, Nat.reduceLT, Nat.reduceLeDiff, Nat.reduceBEq, Nat.reduceDiv, Nat.reduceMod, Int.reduceToNat, Int.reduceNeg, Int.reduceAdd, Int.reduceSub, Int.reduceMul, Int.reduceEq, Int.reduceNe, Int.reduceLT, Int.reduceLE, Int.reduceGT, Int.reduceGE, h0, h3]
        exact .inr ⟨id, _, h1, rfl, rfl⟩
    · clear h0 h3
      rintro fr M1 ⟨h0, hst⟩
      simp -implicitDefEqProofs (maxSteps := 1000000) (disch := omega) only [↓xsP, ↓vc_seq, xsQ, xsT, xsR, xsD, ↓reduceIte, reduceCtorEq, eq_self, ne_eq, imp_self, forall_const, Nat.reduceEqDiff, Nat.reduceAdd, Nat.reduceSub, Nat.reduceMul, Nat.reduceLT, Nat.reduceLeDiff, Nat.reduceBEq, Nat.reduceDiv, Nat.reduceMod, Int.reduceToNat, Int.reduceNeg, Int.reduceAdd, Int.reduceSub, Int.reduceMul, Int.reduceEq, Int.reduceNe, Int.reduceLT, Int.reduceLE, Int.reduceGT, Int.reduceGE, h0]
      refine loopI_of (xloop (by kernel_rfl) (fun k fr M' => ∃ i : Nat, i ≤ L.length ∧ k = L.length - i ∧ fr 25 = .l (.ms ids 0 L.length) ∧ fr 26 = .l (.int .i64 L.length) ∧ fr 27 = .l (.int .i64 i) ∧
        ((L.flatten = [] ∧ fr 6 = .l .nils ∧ M' = N) ∨ ∃ idR rows, (∀ j, idR ≤ j → N j = none) ∧ fr 6 = .l (.ms idR 0 (L.take i).flatten.length) ∧ M' = N.set idR (.cells 26 rows 0) ∧ rows.take (L.take i).flatten.length = (L.take i).flatten.map Pr.row ∧ (L.take i).flatten.length ≤ rows.length)) L.length ?_ ?_)
      · refine ⟨0, Nat.zero_le _, rfl, by simp -implicitDefEqProofs (maxSteps := 1000000) (disch := omega) only [↓xsP, ↓vc_seq, xsQ, xsT, xsR, xsD, ↓reduceIte, reduceCtorEq, eq_self, ne_eq, imp_self, forall_const, Nat.reduceEqDiff, Nat.reduceAdd, Nat.reduceSub, Nat.reduceMul, Nat.reduceLT, Nat.reduceLeDiff, Nat.reduceBEq, Nat.reduceDiv, Nat.reduceMod, Int.reduceToNat, Int.reduceNeg, Int.reduceAdd, Int.reduceSub, Int.reduceMul, Int.reduceEq, Int.reduceNe, Int.reduceLT, Int.reduceLE, Int.reduceGT, Int.reduceGE], by simp -implicitDefEqProofs (maxSteps := 1000000) (disch := omega) only [↓xsP, ↓vc_seq, xsQ, xsT, xsR, xsD, ↓reduceIte, reduceCtorEq, eq_self, ne_eq, imp_self, forall_const, Nat.reduceEqDiff, Nat.reduceAdd, Nat.reduceSub, Nat.reduceMul, Nat.reduceLT, Nat.reduceLeDiff, Nat.reduceBEq, Nat.reduceDiv, Nat.reduceMod, Int.reduceToNat, Int.reduceNeg, Int.reduceAdd, Int.reduceSub, Int.reduceMul, Int.reduceEq, Int.reduceNe, Int.reduceLT, Int.reduceLE, Int.reduceGT, Int.reduceGE], by simp -implicitDefEqProofs (maxSteps := 1000000) (disch := omega) only [↓xsP, ↓vc_seq, xsQ, xsT, xsR, xsD, ↓reduceIte, reduceCtorEq, eq_self, ne_eq, imp_self, forall_const, Nat.reduceEqDiff, Nat.reduceAdd, Nat.reduceSub, Nat.reduceMul, Nat.reduceLT, Nat.reduceLeDiff, Nat.reduceBEq, Nat.reduceDiv, Nat.reduceMod, Int.reduceToNat, Int.reduceNeg, Int.reduceAdd, Int.reduceSub, Int.reduceMul, Int.reduceEq, Int.reduceNe, Int.reduceLT, Int.reduceLE, Int.reduceGT, Int.reduceGE, Int.cast_ofNat_Int], ?_⟩
        rcases hst with ⟨h1, h2, h3⟩ | ⟨idR, rows, h1, h2, h3⟩
        · exact .inl ⟨h1, by simp -implicitDefEqProofs (maxSteps := 1000000) (disch := omega) only [↓xsP, ↓vc_seq, xsQ, xsT, xsR, xsD, ↓reduceIte, reduceCtorEq, eq_self, ne_eq, imp_self, forall_const, Nat.reduceEqDiff, Nat.reduceAdd, Nat.reduceSub, Nat.reduceMul, Nat.reduceLT, Nat.reduceLeDiff, Nat.reduceBEq, Nat.reduceDiv, Nat.reduceMod, Int.reduceToNat, Int.reduceNeg, Int.reduceAdd, Int.reduceSub, Int.reduceMul, Int.reduceEq, Int.reduceNe, Int.reduceLT, Int.reduceLE, Int.reduceGT, Int.reduceGE, h2], h3⟩
        · exact .inr ⟨idR, rows, h1, by simp -implicitDefEqProofs (maxSteps := 1000000) (disch := omega) only [↓xsP, ↓vc_seq, xsQ, xsT, xsR, xsD, ↓reduceIte, reduceCtorEq, eq_self, ne_eq, imp_self, forall_const, Nat.reduceEqDiff, Nat.reduceAdd, Nat.reduceSub, Nat.reduceMul, Nat.reduceLT, Nat.reduceLeDiff, Nat.reduceBEq, Nat.reduceDiv, Nat.reduceMod, Int.reduceToNat, Int.reduceNeg, Int.reduceAdd, Int.reduceSub, Int.reduceMul, Int.reduceEq, Int.reduceNe, Int.reduceLT, Int.reduceLE, Int.reduceGT, Int.reduceGE, h2], h3, rfl, Nat.zero_le _⟩
      · rintro k fr M' ⟨i, hi, rfl, h25, h26, h27, hst⟩
        simp -implicitDefEqProofs (maxSteps := 1000000) (disch := omega) only [↓xsP, ↓vc_seq, xsQ, xsT, xsR, xsD, ↓reduceIte, reduceCtorEq, eq_self, ne_eq, imp_self, forall_const, Nat.reduceEqDiff, Nat.reduceAdd, Nat.reduceSub, Nat.reduceMul, Nat.reduceLT, Nat.reduceLeDiff, Nat.reduceBEq, Nat.reduceDiv, Nat.reduceMod, Int.reduceToNat, Int.reduceNeg, Int.reduceAdd, Int.reduceSub, Int.reduceMul, Int.reduceEq, Int.reduceNe, Int.reduceLT, Int.reduceLE, Int.reduceGT, Int.reduceGE, h25, h26, h27]
        refine condI_prop (fun hlt => ?_) (fun hlt => ?_)
        · have hi' : i < L.length := by omega
          have hg := hget i hi'
          have hs := hsrc i hi'
          have ht := tot_take hi'
          have htl := tot_le L (i + 1)
          rw [ht, List.length_append] at htl
          rcases hst with ⟨h1, h6, rfl⟩ | ⟨idR, rows, h1, h6, rfl, h7, h8⟩
          · have hLi : L.getD i [] = [] := by
              rw [h1] at htl
              simp only [List.length_nil] at htl
              exact List.eq_nil_of_length_eq_zero (by omega)
            rw [hLi] at hs
            simp -implicitDefEqProofs (maxSteps := 1000000) (disch := omega) only [↓xsP, ↓vc_seq, xsQ, xsT, xsR, xsD, ↓reduceIte, reduceCtorEq, eq_self, ne_eq, imp_self, forall_const, Nat.reduceEqDiff, Nat.reduceAdd, Nat.reduceSub, Nat.reduceMul, Nat.reduceLT, Nat.reduceLeDiff, Nat.reduceBEq, Nat.reduceDiv, Nat.reduceMod, Int.reduceToNat, Int.reduceNeg, Int.reduceAdd, Int.reduceSub, Int.reduceMul, Int.reduceEq, Int.reduceNe, Int.reduceLT, Int.reduceLE, Int.reduceGT, Int.reduceGE, h25, h26, h27, hM, hg, h6]
            refine app_src_nil hs ?_
            simp -implicitDefEqProofs (maxSteps := 1000000) (disch := omega) only [↓xsP, ↓vc_seq, xsQ, xsT, xsR, xsD, ↓reduceIte, reduceCtorEq, eq_self, ne_eq, imp_self, forall_const, Nat.reduceEqDiff, Nat.reduceAdd, Nat.reduceSub, Nat.reduceMul, Nat.reduceLT, Nat.reduceLeDiff, Nat.reduceBEq, Nat.reduceDiv, Nat.reduceMod, Int.reduceToNat, Int.reduceNeg, Int.reduceAdd, Int.reduceSub, Int.reduceMul, Int.reduceEq, Int.reduceNe, Int.reduceLT, Int.reduceLE, Int.reduceGT, Int.reduceGE, h25, h26, h27, h6]
            exact ⟨L.length - (i + 1), M', by omega, Mem.le_refl _, i + 1, by omega, rfl, by simp, .inl ⟨h1, rfl⟩⟩
          · have hltR : ids < idR := lt_of_bnd h1 hM
            have hM2 : (N.set idR (.cells 26 rows 0)) ids = some (.cells 27 (srcs.map fun s => [s]) keep) := by rw [Mem.set_ne _ _ _ _ (by omega)]; exact hM
            simp -implicitDefEqProofs (maxSteps := 1000000) (disch := omega) only [↓xsP, ↓vc_seq, xsQ, xsT, xsR, xsD, ↓reduceIte, reduceCtorEq, eq_self, ne_eq, imp_self, forall_const, Nat.reduceEqDiff, Nat.reduceAdd, Nat.reduceSub, Nat.reduceMul, Nat.reduceLT, Nat.reduceLeDiff, Nat.reduceBEq, Nat.reduceDiv, Nat.reduceMod, Int.reduceToNat, Int.reduceNeg, Int.reduceAdd, Int.reduceSub, Int.reduceMul, Int.reduceEq, Int.reduceNe, Int.reduceLT, Int.reduceLE, Int.reduceGT, Int.reduceGE, h25, h26, h27, hM, hg, h6]
            have hs' : SrcIs (N.set idR (.cells 26 rows 0)) (srcs.getD i .nils) (L.getD i []) := hs.le (le_new (Mem.le_refl _) h1)
            refine app_src hs' (Mem.set_eq _ _ _) h8 (Nat.zero_le _) (by omega) fun id' hid' => ?_
            obtain ⟨hRi, hid'⟩ := bnd_new hid'
            simp -implicitDefEqProofs (maxSteps := 1000000) (disch := omega) only [↓xsP, ↓vc_seq, xsQ, xsT, xsR, xsD, ↓reduceIte, reduceCtorEq, eq_self, ne_eq, imp_self, forall_const, Nat.reduceEqDiff, Nat.reduceAdd, Nat.reduceSub, Nat.reduceMul, Nat.reduceLT, Nat.reduceLeDiff, Nat.reduceBEq, Nat.reduceDiv, Nat.reduceMod, Int.reduceToNat, Int.reduceNeg, Int.reduceAdd, Int.reduceSub, Int.reduceMul, Int.reduceEq, Int.reduceNe, Int.reduceLT, Int.reduceLE, Int.reduceGT, Int.reduceGE, h25, h26, h27, h6]
            refine ⟨L.length - (i + 1), N.set id' (.cells 26 (rows.take (L.take i).flatten.length ++ (L.getD i []).map Pr.row) 0), by omega, le_clone (h1 _ (Nat.le_refl _)), i + 1, by omega, rfl, by simp, .inr ⟨id', _, hid', by rw [ht, List.length_append], rfl, ?_, ?_⟩⟩
            · rw [h7, ht, List.map_append, List.take_of_length_le (by simp only [List.length_append, List.length_map]; exact Nat.le_refl _)]
            · rw [h7, ht]
              simp only [List.length_append, List.length_map]
              exact Nat.le_refl _
        · simp -implicitDefEqProofs (maxSteps := 1000000) (disch := omega) only [↓xsP, ↓vc_seq, xsQ, xsT, xsR, xsD, ↓reduceIte, reduceCtorEq, eq_self, ne_eq, imp_self, forall_const, Nat.reduceEqDiff, Nat.reduceAdd, Nat.reduceSub, Nat.reduceMul, Nat.reduceLT, Nat.reduceLeDiff, Nat.reduceBEq, Nat.reduceDiv, Nat.reduceMod, Int.reduceToNat, Int.reduceNeg, Int.reduceAdd, Int.reduceSub, Int.reduceMul, Int.reduceEq, Int.reduceNe, Int.reduceLT, Int.reduceLE, Int.reduceGT, Int.reduceGE, h25, h26, h27]
          have hil : i = L.length := by omega
          subst hil
          rw [List.take_length] at hst
          rcases hst with ⟨h1, h6, rfl⟩ | ⟨idR, rows, h1, h6, rfl, h7, h8⟩
          · simp -implicitDefEqProofs (maxSteps := 1000000) (disch := omega) only [↓xsP, ↓vc_seq, xsQ, xsT, xsR, xsD, ↓reduceIte, reduceCtorEq, eq_self, ne_eq, imp_self, forall_const, Nat.reduceEqDiff, Nat.reduceAdd, Nat.reduceSub, Nat.reduceMul, Nat.reduceLT, Nat.reduceLeDiff, Nat.reduceBEq, Nat.reduceDiv, Nat.reduceMod, Int.reduceToNat, Int.reduceNeg, Int.reduceAdd, Int.reduceSub, Int.reduceMul, Int.reduceEq, Int.reduceNe, Int.reduceLT, Int.reduceLE, Int.reduceGT, Int.reduceGE, h6]
            refine finI_of (XFin.wk (XFin.here ⟨?_, rfl⟩))
            rw [h1]
            rfl
          · simp -implicitDefEqProofs (maxSteps := 1000000) (disch := omega) only [↓xsP, ↓vc_seq, xsQ, xsT, xsR, xsD, ↓reduceIte, reduceCtorEq, eq_self, ne_eq, imp_self, forall_const, Nat.reduceEqDiff, Nat.reduceAdd, Nat.reduceSub, Nat.reduceMul, Nat.reduceLT, Nat.reduceLeDiff, Nat.reduceBEq, Nat.reduceDiv, Nat.reduceMod, Int.reduceToNat, Int.reduceNeg, Int.reduceAdd, Int.reduceSub, Int.reduceMul, Int.reduceEq, Int.reduceNe, Int.reduceLT, Int.reduceLE, Int.reduceGT, Int.reduceGE, h6]
            refine finI_of (XFin.frz idR (Mem.set_eq _ _ _) (XFin.le ?_ ⟨?_, rfl⟩))
            · exact le_new (le_new (Mem.le_refl _) h1) h1
            · simp only [frzA, frz1, frzL, Nat.zero_add, List.drop_zero, h8, h7, eq_self, and_self, if_true]
end Go.X

/- What leaf.with does. -/

set_option linter.unusedVariables false
set_option linter.unusedSimpArgs false
set_option maxHeartbeats 20000000
set_option maxRecDepth 100000
namespace Go.X
open Go.Proofs.Try (prog)

/-- How many pairs at the front have lesser keys. -/
def wat (k : Int) : List Pr → Nat
  | [] => 0
  | x :: r => if x.key < k then wat k r + 1 else 0
theorem wat_eq (k : Int) : ∀ (l : List Pr) (i : Nat), (∀ j, j < i → j < l.length → (l.getD j default).key < k) → i ≤ l.length → (i < l.length → ¬ (l.getD i default).key < k) → wat k l = i
  | [], i, _, hi, _ => by simp at hi; subst hi; rfl
  | x :: r, 0, _, _, h => by
    have := h (by simp)
    simp only [List.getD_cons_zero] at this
    simp only [wat, if_neg this]
  | x :: r, i + 1, h1, hi, h2 => by
    have h0 := h1 0 (by omega) (by simp)
    simp only [List.getD_cons_zero] at h0
    simp only [wat, if_pos h0]
    rw [wat_eq k r i (fun j hj hj2 => by simpa using h1 (j + 1) (by omega) (by simpa using hj2)) (by simpa using hi) (fun h => by simpa using h2 (by simpa using h))]
def withRest (l : List Pr) (p : Pr) : List Pr := match l.drop (wat p.key l) with
  | [] => []
  | x :: r => if x.key = p.key then r else x :: r
def withL (l : List Pr) (p : Pr) : List Pr := l.take (wat p.key l) ++ [p] ++ withRest l p
theorem withRest_len (l : List Pr) (p : Pr) : (withRest l p).length ≤ l.length - wat p.key l := by
  have : (l.drop (wat p.key l)).length = l.length - wat p.key l := by simp
  unfold withRest
  split
  · simp
  · rename_i x r h
    rw [h] at this
    simp only [List.length_cons] at this
    split
    · omega
    · simp only [List.length_cons]; omega

theorem with_spec (l : List Pr) (hl : l.length ≤ 1000001) (p : Pr) (M : Mem) :
    XCalls Go.Proofs.Try.prog 68 [.l (.sl (l.map Pr.row)), .agg p.row] M fun r M' => r = .l (.sl ((withL l p).map Pr.row)) ∧ M' = M := by
  refine xcalls_intro (rs := [.tmp 4]) Go.Proofs.Try.func68 rfl (by kernel_rfl) rfl rfl (by kernel_rfl) (by simp) ?_
  refine vc_seq_of ?_
  simp -implicitDefEqProofs (maxSteps := 1000000) (disch := omega) only [↓xsP, xsQ, xsT, xsR, xsD, ↓reduceIte, reduceCtorEq, eq_self, ne_eq, imp_self, forall_const, Nat.reduceEqDiff, Nat.reduceAdd, Nat.reduceSub, Nat.reduceMul, Nat.reduceLT, Nat.reduceLeDiff, Nat.reduceBEq, Nat.reduceDiv, Nat.reduceMod, Int.reduceToNat, Int.reduceNeg, Int.reduceAdd, Int.reduceSub, Int.reduceMul, Int.reduceEq, Int.reduceNe, Int.reduceLT, Int.reduceLE, Int.reduceGT, Int.reduceGE]
  refine newI_intro fun id3 hid3 => ?_
  simp -implicitDefEqProofs (maxSteps := 1000000) (disch := omega) only [↓xsP, xsQ, xsT, xsR, xsD, ↓reduceIte, reduceCtorEq, eq_self, ne_eq, imp_self, forall_const, Nat.reduceEqDiff, Nat.reduceAdd, Nat.reduceSub, Nat.reduceMul, Nat.reduceLT, Nat.reduceLeDiff, Nat.reduceBEq, Nat.reduceDiv, Nat.reduceMod, Int.reduceToNat, Int.reduceNeg, Int.reduceAdd, Int.reduceSub, Int.reduceMul, Int.reduceEq, Int.reduceNe, Int.reduceLT, Int.reduceLE, Int.reduceGT, Int.reduceGE]
  have hM3 := Mem.set_eq M id3 (.cells 26 [p.row] 0)
  have hMN : M.le (M.set id3 (.cells 26 [p.row] 0)) := le_new (Mem.le_refl _) hid3
  refine vc_seq_of ?_
  simp -implicitDefEqProofs (maxSteps := 1000000) (disch := omega) only [↓xsP, xsQ, xsT, xsR, xsD, ↓reduceIte, reduceCtorEq, eq_self, ne_eq, imp_self, forall_const, Nat.reduceEqDiff, Nat.reduceAdd, Nat.reduceSub, Nat.reduceMul, Nat.reduceLT, Nat.reduceLeDiff, Nat.reduceBEq, Nat.reduceDiv, Nat.reduceMod, Int.reduceToNat, Int.reduceNeg, Int.reduceAdd, Int.reduceSub, Int.reduceMul, Int.reduceEq, Int.reduceNe, Int.reduceLT, Int.reduceLE, Int.reduceGT, Int.reduceGE]
  refine vc_cut (fun fr N => N = M.set id3 (.cells 26 [p.row] 0) ∧ fr 0 = .l (.sl (l.map Pr.row)) ∧ fr 3 = .l (.ptr id3 0 0) ∧ fr 5 = .l (.int .i64 (wat p.key l)) ∧ wat p.key l ≤ l.length) ?_ ?_
  · simp -implicitDefEqProofs (maxSteps := 1000000) (disch := omega) only [↓xsP, ↓vc_seq, xsQ, xsT, xsR, xsD, ↓reduceIte, reduceCtorEq, eq_self, ne_eq, imp_self, forall_const, Nat.reduceEqDiff, Nat.reduceAdd, Nat.reduceSub, Nat.reduceMul, Nat.reduceLT, Nat.reduceLeDiff, Nat.reduceBEq, Nat.reduceDiv, Nat.reduceMod, Int.reduceToNat, Int.reduceNeg, Int.reduceAdd, Int.reduceSub, Int.reduceMul, Int.reduceEq, Int.reduceNe, Int.reduceLT, Int.reduceLE, Int.reduceGT, Int.reduceGE]
    refine loopI_of (xloop (by kernel_rfl) (fun k fr M' => ∃ i : Nat, i ≤ l.length ∧ k = l.length - i ∧ fr 0 = .l (.sl (l.map Pr.row)) ∧ fr 3 = .l (.ptr id3 0 0) ∧ fr 5 = .l (.int .i64 i) ∧ (∀ j, j < i → j < l.length → (l.getD j default).key < p.key) ∧ M' = M.set id3 (.cells 26 [p.row] 0)) l.length ?_ ?_)
    · exact ⟨0, Nat.zero_le _, rfl, by simp -implicitDefEqProofs (maxSteps := 1000000) (disch := omega) only [↓xsP, ↓vc_seq, xsQ, xsT, xsR, xsD, ↓reduceIte, reduceCtorEq, eq_self, ne_eq, imp_self, forall_const, Nat.reduceEqDiff, Nat.reduceAdd, Nat.reduceSub, Nat.reduceMul, Nat.reduceLT, Nat.reduceLeDiff, Nat.reduceBEq, Nat.reduceDiv, Nat.reduceMod, Int.reduceToNat, Int.reduceNeg, Int.reduceAdd, Int.reduceSub, Int.reduceMul, Int.reduceEq, Int.reduceNe, Int.reduceLT, Int.reduceLE, Int.reduceGT, Int.reduceGE], by simp -implicitDefEqProofs (maxSteps := 1000000) (disch := omega) only [↓xsP, ↓vc_seq, xsQ, xsT, xsR, xsD, ↓reduceIte, reduceCtorEq, eq_self, ne_eq, imp_self, forall_const, Nat.reduceEqDiff, Nat.reduceAdd, Nat.reduceSub, Nat.reduceMul, Nat.reduceLT, Nat.reduceLeDiff, Nat.reduceBEq, Nat.reduceDiv, Nat.reduceMod, Int.reduceToNat, Int.reduceNeg, Int.reduceAdd, Int.reduceSub, Int.reduceMul, Int.reduceEq, Int.reduceNe, Int.reduceLT, Int.reduceLE, Int.reduceGT, Int.reduceGE], by simp -implicitDefEqProofs (maxSteps := 1000000) (disch := omega) only [↓xsP, ↓vc_seq, xsQ, xsT, xsR, xsD, ↓reduceIte, reduceCtorEq, eq_self, ne_eq, imp_self, forall_const, Nat.reduceEqDiff, Nat.reduceAdd, Nat.reduceSub, Nat.reduceMul, Nat.reduceLT, Nat.reduceLeDiff, Nat.reduceBEq, Nat.reduceDiv, Nat.reduceMod, Int.reduceToNat, Int.reduceNeg, Int.reduceAdd, Int.reduceSub, Int.reduceMul, Int.reduceEq, Int.reduceNe, Int.reduceLT, Int.reduceLE, Int.reduceGT, Int.reduceGE, Int.cast_ofNat_Int], fun j h => by omega, rfl⟩
    · rintro k fr M' ⟨i, hi, rfl, h0, h3, h5, hlow, rfl⟩
      simp -implicitDefEqProofs (maxSteps := 1000000) (disch := omega) only [↓xsP, ↓vc_seq, xsQ, xsT, xsR, xsD, ↓reduceIte, reduceCtorEq, eq_self, ne_eq, imp_self, forall_const, Nat.reduceEqDiff, Nat.reduceAdd, Nat.reduceSub, Nat.reduceMul, Nat.reduceLT, Nat.reduceLeDiff, Nat.reduceBEq, Nat.reduceDiv, Nat.reduceMod, Int.reduceToNat, Int.reduceNeg, Int.reduceAdd, Int.reduceSub, Int.reduceMul, Int.reduceEq, Int.reduceNe, Int.reduceLT, Int.reduceLE, Int.reduceGT, Int.reduceGE, h0, h3, h5]
      refine xquiet (by kernel_rfl) (by kernel_rfl) (by kernel_rfl) ?_
      simp -implicitDefEqProofs (maxSteps := 1000000) (disch := omega) only [↓xsP, ↓vc_seq, xsQ, xsT, xsR, xsD, ↓reduceIte, reduceCtorEq, eq_self, ne_eq, imp_self, forall_const, Nat.reduceEqDiff, Nat.reduceAdd, Nat.reduceSub, Nat.reduceMul, Nat.reduceLT, Nat.reduceLeDiff, Nat.reduceBEq, Nat.reduceDiv, Nat.reduceMod, Int.reduceToNat, Int.reduceNeg, Int.reduceAdd, Int.reduceSub, Int.reduceMul, Int.reduceEq, Int.reduceNe, Int.reduceLT, Int.reduceLE, Int.reduceGT, Int.reduceGE, h0, h3, h5]
      refine gI_prop (fun hlt => ?_) (fun hlt => ?_)
      · simp -implicitDefEqProofs (maxSteps := 1000000) (disch := omega) only [↓xsP, ↓vc_seq, xsQ, xsT, xsR, xsD, ↓reduceIte, reduceCtorEq, eq_self, ne_eq, imp_self, forall_const, Nat.reduceEqDiff, Nat.reduceAdd, Nat.reduceSub, Nat.reduceMul, Nat.reduceLT, Nat.reduceLeDiff, Nat.reduceBEq, Nat.reduceDiv, Nat.reduceMod, Int.reduceToNat, Int.reduceNeg, Int.reduceAdd, Int.reduceSub, Int.reduceMul, Int.reduceEq, Int.reduceNe, Int.reduceLT, Int.reduceLE, Int.reduceGT, Int.reduceGE, h0, h3, h5, hlt]
        refine condI_prop (fun hk => ?_) (fun hk => ?_)
        · simp -implicitDefEqProofs (maxSteps := 1000000) (disch := omega) only [↓xsP, ↓vc_seq, xsQ, xsT, xsR, xsD, ↓reduceIte, reduceCtorEq, eq_self, ne_eq, imp_self, forall_const, Nat.reduceEqDiff, Nat.reduceAdd, Nat.reduceSub, Nat.reduceMul, Nat.reduceLT, Nat.reduceLeDiff, Nat.reduceBEq, Nat.reduceDiv, Nat.reduceMod, Int.reduceToNat, Int.reduceNeg, Int.reduceAdd, Int.reduceSub, Int.reduceMul, Int.reduceEq, Int.reduceNe, Int.reduceLT, Int.reduceLE, Int.reduceGT, Int.reduceGE, h0, h3, h5]
          refine ⟨l.length - (i + 1), _, by omega, Mem.le_refl _, i + 1, by omega, rfl, by simp, fun j h1 h2 => ?_, rfl⟩
          by_cases e : j = i
          · subst e; exact hk
          · exact hlow j (by omega) h2
        · simp -implicitDefEqProofs (maxSteps := 1000000) (disch := omega) only [↓xsP, ↓vc_seq, xsQ, xsT, xsR, xsD, ↓reduceIte, reduceCtorEq, eq_self, ne_eq, imp_self, forall_const, Nat.reduceEqDiff, Nat.reduceAdd, Nat.reduceSub, Nat.reduceMul, Nat.reduceLT, Nat.reduceLeDiff, Nat.reduceBEq, Nat.reduceDiv, Nat.reduceMod, Int.reduceToNat, Int.reduceNeg, Int.reduceAdd, Int.reduceSub, Int.reduceMul, Int.reduceEq, Int.reduceNe, Int.reduceLT, Int.reduceLE, Int.reduceGT, Int.reduceGE, h0, h3, h5]
          have hw := wat_eq p.key l i hlow hi (fun _ => hk)
          rw [hw]
          simp [hi, Pr.row]
      · simp -implicitDefEqProofs (maxSteps := 1000000) (disch := omega) only [↓xsP, ↓vc_seq, xsQ, xsT, xsR, xsD, ↓reduceIte, reduceCtorEq, eq_self, ne_eq, imp_self, forall_const, Nat.reduceEqDiff, Nat.reduceAdd, Nat.reduceSub, Nat.reduceMul, Nat.reduceLT, Nat.reduceLeDiff, Nat.reduceBEq, Nat.reduceDiv, Nat.reduceMod, Int.reduceToNat, Int.reduceNeg, Int.reduceAdd, Int.reduceSub, Int.reduceMul, Int.reduceEq, Int.reduceNe, Int.reduceLT, Int.reduceLE, Int.reduceGT, Int.reduceGE, h0, h3, h5, hlt]
        have hw := wat_eq p.key l i hlow hi (fun h => by omega)
        rw [hw]
        simp [hi, Pr.row]
  · rintro fr N ⟨rfl, h0, h3, h5, hwl⟩
    have hwr : withRest l p = match l.drop (wat p.key l) with
      | [] => []
      | x :: r => if x.key = p.key then r else x :: r := rfl
    have hwlen := withRest_len l p
    have hwe : withL l p = l.take (wat p.key l) ++ [p] ++ withRest l p := rfl
    generalize wat p.key l = w at h5 hwl hwr hwlen hwe
    generalize withRest l p = rest at hwr hwlen hwe
    have hw0 : (0 ≤ (w : Int)) = True := eq_true (by omega)
    have hwle : (w ≤ l.length) = True := eq_true hwl
    have hrows : (∀ r, r ∈ l.map Pr.row → r.length = 2) = True := eq_true (rows2 l)
    have hdr : List.take (l.length - w) (List.drop w (l.map Pr.row)) = (l.drop w).map Pr.row := by
      rw [List.take_of_length_le (by simp), List.map_drop]
    have hM3' : (M.set id3 (.cells 26 [p.row] 0)) id3 = some (.cells 26 [p.row] 0) := Mem.set_eq _ _ _
    generalize M.set id3 (.cells 26 [p.row] 0) = N at hMN hM3' ⊢
    refine vc_cut (fun fr N' => N' = N ∧ fr 0 = .l (.sl (l.map Pr.row)) ∧ fr 3 = .l (.ptr id3 0 0) ∧ fr 5 = .l (.int .i64 w) ∧ fr 6 = .l (.sl ((l.drop w).map Pr.row))) ?_ ?_
    · simp -implicitDefEqProofs (maxSteps := 1000000) (disch := omega) only [↓xsP, ↓vc_seq, xsQ, xsT, xsR, xsD, ↓reduceIte, reduceCtorEq, eq_self, ne_eq, imp_self, forall_const, Nat.reduceEqDiff, Nat.reduceAdd, Nat.reduceSub, Nat.reduceMul, Nat.reduceLT, Nat.reduceLeDiff, Nat.reduceBEq, Nat.reduceDiv, Nat.reduceMod, Int.reduceToNat, Int.reduceNeg, Int.reduceAdd, Int.reduceSub, Int.reduceMul, Int.reduceEq, Int.reduceNe, Int.reduceLT, Int.reduceLE, Int.reduceGT, Int.reduceGE, h0, h3, h5, hw0, hwle, hrows, hdr]
    · clear h0 h3 h5
      rintro fr N' ⟨rfl, h0, h3, h5, h6⟩
      have hwr2 : rest = match l.drop w with
        | [] => []
        | x :: r => if x.key = p.key then r else x :: r := hwr
      have hwd : (l.drop w).length ≤ 1000001 := by simp; omega
      clear hwr hdr
      generalize l.drop w = d at h6 hwr2 hwd
      refine vc_cut (fun fr N => N = N' ∧ fr 0 = .l (.sl (l.map Pr.row)) ∧ fr 3 = .l (.ptr id3 0 0) ∧ fr 5 = .l (.int .i64 w) ∧ fr 6 = .l (.sl (rest.map Pr.row))) ?_ ?_
      · by_cases hd : d = []
        · subst hd
          have hr0 : rest = [] := hwr2
          have hd0 : ((([] : List Pr).length : Int) > 0) = False := eq_false (by simp)
          simp -implicitDefEqProofs (maxSteps := 1000000) (disch := omega) only [↓xsP, ↓vc_seq, xsQ, xsT, xsR, xsD, ↓reduceIte, reduceCtorEq, eq_self, ne_eq, imp_self, forall_const, Nat.reduceEqDiff, Nat.reduceAdd, Nat.reduceSub, Nat.reduceMul, Nat.reduceLT, Nat.reduceLeDiff, Nat.reduceBEq, Nat.reduceDiv, Nat.reduceMod, Int.reduceToNat, Int.reduceNeg, Int.reduceAdd, Int.reduceSub, Int.reduceMul, Int.reduceEq, Int.reduceNe, Int.reduceLT, Int.reduceLE, Int.reduceGT, Int.reduceGE, h0, h3, h5, h6]
          refine xquiet (by kernel_rfl) (by kernel_rfl) (by kernel_rfl) ?_
          simp -implicitDefEqProofs (maxSteps := 1000000) (disch := omega) only [↓xsP, ↓vc_seq, xsQ, xsT, xsR, xsD, ↓reduceIte, reduceCtorEq, eq_self, ne_eq, imp_self, forall_const, Nat.reduceEqDiff, Nat.reduceAdd, Nat.reduceSub, Nat.reduceMul, Nat.reduceLT, Nat.reduceLeDiff, Nat.reduceBEq, Nat.reduceDiv, Nat.reduceMod, Int.reduceToNat, Int.reduceNeg, Int.reduceAdd, Int.reduceSub, Int.reduceMul, Int.reduceEq, Int.reduceNe, Int.reduceLT, Int.reduceLE, Int.reduceGT, Int.reduceGE, h0, h3, h5, h6, Int.cast_ofNat_Int]
          rw [hr0]
          rfl
        · have hpos : 0 < d.length := List.length_pos_iff.2 hd
          have hd1 : ((d.length : Int) > 0) = True := eq_true (by omega)
          have hwr3 : rest = if (d.getD 0 default).key = p.key then d.drop 1 else d := by
            rw [hwr2]
            cases d with
            | nil => exact absurd rfl hd
            | cons x r => rfl
          have hrows2 : (∀ r, r ∈ d.map Pr.row → r.length = 2) = True := eq_true (rows2 d)
          have hdr : List.take (d.length - 1) (List.drop 1 (d.map Pr.row)) = (d.drop 1).map Pr.row := by
            rw [List.take_of_length_le (by simp), List.map_drop]
          have h1le : (1 ≤ d.length) = True := eq_true (by omega)
          simp -implicitDefEqProofs (maxSteps := 1000000) (disch := omega) only [↓xsP, ↓vc_seq, xsQ, xsT, xsR, xsD, ↓reduceIte, reduceCtorEq, eq_self, ne_eq, imp_self, forall_const, Nat.reduceEqDiff, Nat.reduceAdd, Nat.reduceSub, Nat.reduceMul, Nat.reduceLT, Nat.reduceLeDiff, Nat.reduceBEq, Nat.reduceDiv, Nat.reduceMod, Int.reduceToNat, Int.reduceNeg, Int.reduceAdd, Int.reduceSub, Int.reduceMul, Int.reduceEq, Int.reduceNe, Int.reduceLT, Int.reduceLE, Int.reduceGT, Int.reduceGE, h0, h3, h5, h6]
          refine xquiet (by kernel_rfl) (by kernel_rfl) (by kernel_rfl) ?_
          simp -implicitDefEqProofs (maxSteps := 1000000) (disch := omega) only [↓xsP, ↓vc_seq, xsQ, xsT, xsR, xsD, ↓reduceIte, reduceCtorEq, eq_self, ne_eq, imp_self, forall_const, Nat.reduceEqDiff, Nat.reduceAdd, Nat.reduceSub, Nat.reduceMul, Nat.reduceLT, Nat.reduceLeDiff, Nat.reduceBEq, Nat.reduceDiv, Nat.reduceMod, Int.reduceToNat, Int.reduceNeg, Int.reduceAdd, Int.reduceSub, Int.reduceMul, Int.reduceEq, Int.reduceNe, Int.reduceLT, Int.reduceLE, Int.reduceGT, Int.reduceGE, h0, h3, h5, h6, hd1, hM3']
          refine condI_prop (fun hk => ?_) (fun hk => ?_)
          · rw [if_pos hk] at hwr3
            simp -implicitDefEqProofs (maxSteps := 1000000) (disch := omega) only [↓xsP, ↓vc_seq, xsQ, xsT, xsR, xsD, ↓reduceIte, reduceCtorEq, eq_self, ne_eq, imp_self, forall_const, Nat.reduceEqDiff, Nat.reduceAdd, Nat.reduceSub, Nat.reduceMul, Nat.reduceLT, Nat.reduceLeDiff, Nat.reduceBEq, Nat.reduceDiv, Nat.reduceMod, Int.reduceToNat, Int.reduceNeg, Int.reduceAdd, Int.reduceSub, Int.reduceMul, Int.reduceEq, Int.reduceNe, Int.reduceLT, Int.reduceLE, Int.reduceGT, Int.reduceGE, h0, h3, h5, h6, hrows2, hdr, h1le]
            rw [hwr3]
          · rw [if_neg hk] at hwr3
            simp -implicitDefEqProofs (maxSteps := 1000000) (disch := omega) only [↓xsP, ↓vc_seq, xsQ, xsT, xsR, xsD, ↓reduceIte, reduceCtorEq, eq_self, ne_eq, imp_self, forall_const, Nat.reduceEqDiff, Nat.reduceAdd, Nat.reduceSub, Nat.reduceMul, Nat.reduceLT, Nat.reduceLeDiff, Nat.reduceBEq, Nat.reduceDiv, Nat.reduceMod, Int.reduceToNat, Int.reduceNeg, Int.reduceAdd, Int.reduceSub, Int.reduceMul, Int.reduceEq, Int.reduceNe, Int.reduceLT, Int.reduceLE, Int.reduceGT, Int.reduceGE, h0, h3, h5, h6]
            rw [hwr3]
      · clear h0 h3 h5 h6
        rintro fr N ⟨rfl, h0, h3, h5, h6⟩
        refine vc_seq_of ?_
        simp -implicitDefEqProofs (maxSteps := 1000000) (disch := omega) only [↓xsP, xsQ, xsT, xsR, xsD, ↓reduceIte, reduceCtorEq, eq_self, ne_eq, imp_self, forall_const, Nat.reduceEqDiff, Nat.reduceAdd, Nat.reduceSub, Nat.reduceMul, Nat.reduceLT, Nat.reduceLeDiff, Nat.reduceBEq, Nat.reduceDiv, Nat.reduceMod, Int.reduceToNat, Int.reduceNeg, Int.reduceAdd, Int.reduceSub, Int.reduceMul, Int.reduceEq, Int.reduceNe, Int.reduceLT, Int.reduceLE, Int.reduceGT, Int.reduceGE, h0, h3, h5, h6]
        refine xwrite (fun n0 => [ ]) [] [4, 6] [[], [], [], [], [], [4], [], [], []] (by kernel_rfl) (by kernel_rfl) (by kernel_rfl) (by kernel_rfl) (fun n0 hn0 => ⟨rfl, ?_, ?_⟩)
        · exact TOk_nil _ _
        · have h3n : id3 < n0 := lt_of_bnd hn0 hM3'
          simp -implicitDefEqProofs (maxSteps := 1000000) (disch := omega) only [↓xsP, ↓vc_seq, xsQ, xsT, xsR, xsD, ↓reduceIte, reduceCtorEq, eq_self, ne_eq, imp_self, forall_const, Nat.reduceEqDiff, Nat.reduceAdd, Nat.reduceSub, Nat.reduceMul, Nat.reduceLT, Nat.reduceLeDiff, Nat.reduceBEq, Nat.reduceDiv, Nat.reduceMod, Int.reduceToNat, Int.reduceNeg, Int.reduceAdd, Int.reduceSub, Int.reduceMul, Int.reduceEq, Int.reduceNe, Int.reduceLT, Int.reduceLE, Int.reduceGT, Int.reduceGE, h0, h3, h5, h6, hM3', hw0, hwle, hrows, ← List.map_take]
          refine ⟨.inl (by decide), .inl (by decide), ?_⟩
          have hL : [l.take w, [p], rest].flatten = withL l p := by rw [hwe]; simp
          have htl : (l.take w).length ≤ l.length := by simp; omega
          refine ⟨.l (.sl ((withL l p).map Pr.row)), [], fun M' hle => ?_, ?_⟩
          · have hc := concat_spec [l.take w, [p], rest] [.sl ((l.take w).map Pr.row), .ms (n0 + 4) 0 1, .sl (rest.map Pr.row)] rfl (by simp) (by rw [hL, hwe]; simp; omega) (n0 + 6) M' (hle _ _ (Mem.set_eq _ _ _)) (fun i hi => by
              match i, hi with
              | 0, _ => exact .inl rfl
              | 1, _ => exact .inr ⟨n0 + 4, 0, rfl, hle _ _ (by rw [Mem.set_ne _ _ _ _ (by omega)]; exact Mem.set_eq _ _ _)⟩
              | 2, _ => exact .inl rfl)
            rw [hL] at hc
            refine XCalls.mono hc ?_
            rintro _ _ ⟨rfl, rfl⟩
            exact ⟨rfl, Mem.le_refl _⟩
          · simp -implicitDefEqProofs (maxSteps := 1000000) (disch := omega) only [↓xsP, ↓vc_seq, xsQ, xsT, xsR, xsD, ↓reduceIte, reduceCtorEq, eq_self, ne_eq, imp_self, forall_const, Nat.reduceEqDiff, Nat.reduceAdd, Nat.reduceSub, Nat.reduceMul, Nat.reduceLT, Nat.reduceLeDiff, Nat.reduceBEq, Nat.reduceDiv, Nat.reduceMod, Int.reduceToNat, Int.reduceNeg, Int.reduceAdd, Int.reduceSub, Int.reduceMul, Int.reduceEq, Int.reduceNe, Int.reduceLT, Int.reduceLE, Int.reduceGT, Int.reduceGE]
            refine fin_ok (fun i x hx => ?_) ⟨rfl, rfl⟩
            have h1 := hMN _ _ hx
            have h2 := lt_of_bnd hn0 h1
            rw [Mem.set_ne _ _ _ _ (by omega), Mem.set_ne _ _ _ _ (by omega)]
            exact h1
end Go.X

/- What leaf.one does: an operation on one key. -/

set_option linter.unusedVariables false
set_option linter.unusedSimpArgs false
set_option maxHeartbeats 20000000
set_option maxRecDepth 100000
namespace Go.X
open Go.Proofs.Try (prog)

def place (l : List Pr) (k : Int) : Int := pidx (fun p => decide (p.key = k)) l 0
theorem place_cases (l : List Pr) (k : Int) : (place l k = -1 ∧ ∀ p ∈ l, p.key ≠ k) ∨ ∃ i : Nat, i < l.length ∧ place l k = i ∧ (l.getD i default).key = k ∧ ∀ p ∈ l.take i, p.key ≠ k := by
  rcases pidx_cases (fun p => decide (p.key = k)) l 0 with ⟨h1, h2⟩ | ⟨i, hi, h1, h2, h3⟩
  · exact .inl ⟨h1, fun p hp => by simpa using h2 p hp⟩
  · exact .inr ⟨i, hi, by rw [place, h1]; omega, by simpa using h2, fun p hp => by simpa using h3 p hp⟩
def ansAt (l : List Pr) (i : Int) : Ans := if 0 ≤ i then ⟨0, true, l.getD i.toNat default, 0, []⟩ else ans0
def oneL (l : List Pr) (op : Opn) : List Pr :=
  if op.kind = 1 ∨ (op.kind = 2 ∧ place l op.key < 0) then withL l ⟨op.key, op.val⟩
  else if op.kind = 3 ∧ 0 ≤ place l op.key then l.take (place l op.key).toNat ++ l.drop ((place l op.key).toNat + 1)
  else l
/-- An answer's cells, its pairs being nil. -/
def arow (a : Ans) : List Lf := [.int .i64 a.err, .bool a.ok, .int .i64 a.pair.key, .int .i64 a.pair.val, .int .i64 a.n, .nils]
theorem arow_wk (a : Ans) (h : a.pairs = []) : (arow a).map wkL = a.row := by simp [arow, wkL, Ans.row, h]
theorem ansAt_pairs (l : List Pr) (i : Int) : (ansAt l i).pairs = [] := by unfold ansAt; split <;> rfl
theorem one_end {l l' : List Pr} {i : Int} {M N : Mem} (h : l' = l) (hle : M.le N) : XFin Go.Proofs.Try.prog (.tup [.l (.sl (l.map Pr.row)), .agg (arow (ansAt l i))]) N fun r M' => True := XFin.le hle trivial

theorem one_spec (l : List Pr) (hl : l.length ≤ 1000001) (op : Opn) (M : Mem) :
    XCalls Go.Proofs.Try.prog 63 [.l (.sl (l.map Pr.row)), .agg op.row] M fun r M' => r = .tup [.l (.sl ((oneL l op).map Pr.row)), .agg (ansAt l (place l op.key)).row] ∧ M' = M := by
  refine xcalls_intro (rs := [.tmp 4, .cell 5 29]) Go.Proofs.Try.func63 rfl (by kernel_rfl) rfl rfl (by kernel_rfl) (by simp) ?_
  refine vc_seq_of ?_
  simp -implicitDefEqProofs (maxSteps := 1000000) (disch := omega) only [↓xsP, xsQ, xsT, xsR, xsD, ↓reduceIte, reduceCtorEq, eq_self, ne_eq, imp_self, forall_const, Nat.reduceEqDiff, Nat.reduceAdd, Nat.reduceSub, Nat.reduceMul, Nat.reduceLT, Nat.reduceLeDiff, Nat.reduceBEq, Nat.reduceDiv, Nat.reduceMod, Int.reduceToNat, Int.reduceNeg, Int.reduceAdd, Int.reduceSub, Int.reduceMul, Int.reduceEq, Int.reduceNe, Int.reduceLT, Int.reduceLE, Int.reduceGT, Int.reduceGE]
  refine newI_intro fun id3 hid3 => ?_
  simp -implicitDefEqProofs (maxSteps := 1000000) (disch := omega) only [↓xsP, xsQ, xsT, xsR, xsD, ↓reduceIte, reduceCtorEq, eq_self, ne_eq, imp_self, forall_const, Nat.reduceEqDiff, Nat.reduceAdd, Nat.reduceSub, Nat.reduceMul, Nat.reduceLT, Nat.reduceLeDiff, Nat.reduceBEq, Nat.reduceDiv, Nat.reduceMod, Int.reduceToNat, Int.reduceNeg, Int.reduceAdd, Int.reduceSub, Int.reduceMul, Int.reduceEq, Int.reduceNe, Int.reduceLT, Int.reduceLE, Int.reduceGT, Int.reduceGE]
  refine newI_intro fun id5 hid5 => ?_
  obtain ⟨h35, hid5⟩ := bnd_new hid5
  simp -implicitDefEqProofs (maxSteps := 1000000) (disch := omega) only [↓xsP, xsQ, xsT, xsR, xsD, ↓reduceIte, reduceCtorEq, eq_self, ne_eq, imp_self, forall_const, Nat.reduceEqDiff, Nat.reduceAdd, Nat.reduceSub, Nat.reduceMul, Nat.reduceLT, Nat.reduceLeDiff, Nat.reduceBEq, Nat.reduceDiv, Nat.reduceMod, Int.reduceToNat, Int.reduceNeg, Int.reduceAdd, Int.reduceSub, Int.reduceMul, Int.reduceEq, Int.reduceNe, Int.reduceLT, Int.reduceLE, Int.reduceGT, Int.reduceGE]
  refine vc_seq_of ?_
  simp -implicitDefEqProofs (maxSteps := 1000000) (disch := omega) only [↓xsP, xsQ, xsT, xsR, xsD, ↓reduceIte, reduceCtorEq, eq_self, ne_eq, imp_self, forall_const, Nat.reduceEqDiff, Nat.reduceAdd, Nat.reduceSub, Nat.reduceMul, Nat.reduceLT, Nat.reduceLeDiff, Nat.reduceBEq, Nat.reduceDiv, Nat.reduceMod, Int.reduceToNat, Int.reduceNeg, Int.reduceAdd, Int.reduceSub, Int.reduceMul, Int.reduceEq, Int.reduceNe, Int.reduceLT, Int.reduceLE, Int.reduceGT, Int.reduceGE]
  refine newI_intro fun id6 hid6 => ?_
  obtain ⟨h56, hid6⟩ := bnd_new hid6
  obtain ⟨h36, hid6⟩ := bnd_new hid6
  simp -implicitDefEqProofs (maxSteps := 1000000) (disch := omega) only [↓xsP, xsQ, xsT, xsR, xsD, ↓reduceIte, reduceCtorEq, eq_self, ne_eq, imp_self, forall_const, Nat.reduceEqDiff, Nat.reduceAdd, Nat.reduceSub, Nat.reduceMul, Nat.reduceLT, Nat.reduceLeDiff, Nat.reduceBEq, Nat.reduceDiv, Nat.reduceMod, Int.reduceToNat, Int.reduceNeg, Int.reduceAdd, Int.reduceSub, Int.reduceMul, Int.reduceEq, Int.reduceNe, Int.reduceLT, Int.reduceLE, Int.reduceGT, Int.reduceGE]
  refine vc_seq_of ?_
  simp -implicitDefEqProofs (maxSteps := 1000000) (disch := omega) only [↓xsP, xsQ, xsT, xsR, xsD, ↓reduceIte, reduceCtorEq, eq_self, ne_eq, imp_self, forall_const, Nat.reduceEqDiff, Nat.reduceAdd, Nat.reduceSub, Nat.reduceMul, Nat.reduceLT, Nat.reduceLeDiff, Nat.reduceBEq, Nat.reduceDiv, Nat.reduceMod, Int.reduceToNat, Int.reduceNeg, Int.reduceAdd, Int.reduceSub, Int.reduceMul, Int.reduceEq, Int.reduceNe, Int.reduceLT, Int.reduceLE, Int.reduceGT, Int.reduceGE]
  refine call_of (find_spec l (by omega) op.key _) ?_
  simp -implicitDefEqProofs (maxSteps := 1000000) (disch := omega) only [↓xsP, xsQ, xsT, xsR, xsD, ↓reduceIte, reduceCtorEq, eq_self, ne_eq, imp_self, forall_const, Nat.reduceEqDiff, Nat.reduceAdd, Nat.reduceSub, Nat.reduceMul, Nat.reduceLT, Nat.reduceLeDiff, Nat.reduceBEq, Nat.reduceDiv, Nat.reduceMod, Int.reduceToNat, Int.reduceNeg, Int.reduceAdd, Int.reduceSub, Int.reduceMul, Int.reduceEq, Int.reduceNe, Int.reduceLT, Int.reduceLE, Int.reduceGT, Int.reduceGE]
  have hend : ∀ (l' : List Pr) (N : Mem), M.le N → (N id5 = some (.cells 29 [arow (ansAt l (place l op.key))] 0)) → l' = oneL l op →
      @finI prog (.tup [.l (.sl (l'.map Pr.row)), .agg (arow (ansAt l (place l op.key)))]) N ⟨fun r M' => r = .tup [.l (.sl ((oneL l op).map Pr.row)), .agg (ansAt l (place l op.key)).row] ∧ M' = M⟩ := fun l' N hle _ h => by
    subst h
    refine finI_of (XFin.wk (XFin.le hle ⟨?_, rfl⟩))
    simp only [wkT, List.map_cons, List.map_nil, wkA, wkL]
    rw [arow_wk _ (ansAt_pairs _ _)]
  have hpc := place_cases l op.key
  have hp1 : pidx (fun p => decide (p.key = op.key)) l 0 = place l op.key := rfl
  rw [hp1]
  refine vc_cut (fun fr N => fr 0 = .l (.sl (l.map Pr.row)) ∧ fr 3 = .l (.ptr id3 0 0) ∧ fr 5 = .l (.ptr id5 0 0) ∧ fr 6 = .l (.ptr id6 0 0) ∧ fr 7 = .l (.int .i64 (place l op.key)) ∧ M.le N ∧
    N id3 = some (.cells 23 [op.row] 0) ∧ N id5 = some (.cells 29 [arow ans0] 0) ∧ N id6 = some (.cells 29 [arow (ansAt l (place l op.key))] 0)) ?_ ?_
  · have hpl : place l op.key = -1 ∨ (0 ≤ place l op.key ∧ place l op.key < l.length) := by
      rcases hpc with ⟨h, _⟩ | ⟨i, hi, h, _⟩
      · exact .inl h
      · exact .inr (by omega)
    have hz : arow ans0 = [.int .i64 0, .bool false, .int .i64 0, .int .i64 0, .int .i64 0, .nils] := rfl
    generalize hN : (((M.set id3 _).set id5 _).set id6 _ : Mem) = N
    have hN3 : N id3 = some (.cells 23 [op.row] 0) := by rw [← hN, Mem.set_ne _ _ _ _ (by omega), Mem.set_ne _ _ _ _ (by omega)]; exact Mem.set_eq _ _ _
    have hN5 : N id5 = some (.cells 29 [arow ans0] 0) := by rw [← hN, Mem.set_ne _ _ _ _ (by omega)]; exact Mem.set_eq _ _ _
    have hN6 : N id6 = some (.cells 29 [arow ans0] 0) := by rw [← hN]; exact Mem.set_eq _ _ _
    have hMN : M.le N := by rw [← hN]; exact le_new (le_new (le_new (Mem.le_refl _) hid3) hid5) hid6
    have hN6' : N id6 = some (.cells 29 [[.int .i64 0, .bool false, .int .i64 0, .int .i64 0, .int .i64 0, .nils]] 0) := hN6
    clear hN
    simp -implicitDefEqProofs (maxSteps := 1000000) (disch := omega) only [↓xsP, ↓vc_seq, xsQ, xsT, xsR, xsD, ↓reduceIte, reduceCtorEq, eq_self, ne_eq, imp_self, forall_const, Nat.reduceEqDiff, Nat.reduceAdd, Nat.reduceSub, Nat.reduceMul, Nat.reduceLT, Nat.reduceLeDiff, Nat.reduceBEq, Nat.reduceDiv, Nat.reduceMod, Int.reduceToNat, Int.reduceNeg, Int.reduceAdd, Int.reduceSub, Int.reduceMul, Int.reduceEq, Int.reduceNe, Int.reduceLT, Int.reduceLE, Int.reduceGT, Int.reduceGE]
    refine condI_prop (fun hc => ?_) (fun hc => ?_)
    · have hp0 : 0 ≤ place l op.key := hc
      have hp2 : place l op.key < l.length := by omega
      simp -implicitDefEqProofs (maxSteps := 1000000) (disch := omega) only [↓xsP, ↓vc_seq, xsQ, xsT, xsR, xsD, ↓reduceIte, reduceCtorEq, eq_self, ne_eq, imp_self, forall_const, Nat.reduceEqDiff, Nat.reduceAdd, Nat.reduceSub, Nat.reduceMul, Nat.reduceLT, Nat.reduceLeDiff, Nat.reduceBEq, Nat.reduceDiv, Nat.reduceMod, Int.reduceToNat, Int.reduceNeg, Int.reduceAdd, Int.reduceSub, Int.reduceMul, Int.reduceEq, Int.reduceNe, Int.reduceLT, Int.reduceLE, Int.reduceGT, Int.reduceGE, hN6']
      refine ⟨Mem.le_set hMN (hid6 _ (Nat.le_refl _)), ?_, ?_, ?_⟩
      · exact hN3
      · exact hN5
      · rw [ansAt, if_pos hp0]; rfl
    · simp -implicitDefEqProofs (maxSteps := 1000000) (disch := omega) only [↓xsP, ↓vc_seq, xsQ, xsT, xsR, xsD, ↓reduceIte, reduceCtorEq, eq_self, ne_eq, imp_self, forall_const, Nat.reduceEqDiff, Nat.reduceAdd, Nat.reduceSub, Nat.reduceMul, Nat.reduceLT, Nat.reduceLeDiff, Nat.reduceBEq, Nat.reduceDiv, Nat.reduceMod, Int.reduceToNat, Int.reduceNeg, Int.reduceAdd, Int.reduceSub, Int.reduceMul, Int.reduceEq, Int.reduceNe, Int.reduceLT, Int.reduceLE, Int.reduceGT, Int.reduceGE]
      have hp0 : ¬ 0 ≤ place l op.key := hc
      refine ⟨hMN, hN3, hN5, ?_⟩
      rw [ansAt, if_neg hp0]; exact hN6
  · rintro fr N ⟨h0, h3, h5, h6, h7, hMN, hN3, hN5, hN6⟩
    have hpl : place l op.key = -1 ∨ (0 ≤ place l op.key ∧ place l op.key < l.length) := by
      rcases hpc with ⟨h, _⟩ | ⟨i, hi, h, _⟩
      · exact .inl h
      · exact .inr (by omega)
    have hN3' : N id3 = some (.cells 23 [[.int .i64 op.kind, .int .i64 op.key, .int .i64 op.to, .int .i64 op.val]] 0) := hN3
    refine vc_seq_of ?_
    simp -implicitDefEqProofs (maxSteps := 1000000) (disch := omega) only [↓xsP, xsQ, xsT, xsR, xsD, ↓reduceIte, reduceCtorEq, eq_self, ne_eq, imp_self, forall_const, Nat.reduceEqDiff, Nat.reduceAdd, Nat.reduceSub, Nat.reduceMul, Nat.reduceLT, Nat.reduceLeDiff, Nat.reduceBEq, Nat.reduceDiv, Nat.reduceMod, Int.reduceToNat, Int.reduceNeg, Int.reduceAdd, Int.reduceSub, Int.reduceMul, Int.reduceEq, Int.reduceNe, Int.reduceLT, Int.reduceLE, Int.reduceGT, Int.reduceGE, h0]
    refine vc_cut (fun fr N' => N' = N ∧ fr 0 = .l (.sl (l.map Pr.row)) ∧ fr 3 = .l (.ptr id3 0 0) ∧ fr 5 = .l (.ptr id5 0 0) ∧ fr 6 = .l (.ptr id6 0 0) ∧ fr 7 = .l (.int .i64 (place l op.key)) ∧ fr 19 = .l (.bool (decide (op.kind = 1 ∨ (op.kind = 2 ∧ place l op.key < 0))))) ?_ ?_
    · by_cases k1 : op.kind = 1
      · have q1 : (op.kind = 1) = True := eq_true k1
        simp -implicitDefEqProofs (maxSteps := 1000000) (disch := omega) only [↓xsP, ↓vc_seq, xsQ, xsT, xsR, xsD, ↓reduceIte, reduceCtorEq, eq_self, ne_eq, imp_self, forall_const, Nat.reduceEqDiff, Nat.reduceAdd, Nat.reduceSub, Nat.reduceMul, Nat.reduceLT, Nat.reduceLeDiff, Nat.reduceBEq, Nat.reduceDiv, Nat.reduceMod, Int.reduceToNat, Int.reduceNeg, Int.reduceAdd, Int.reduceSub, Int.reduceMul, Int.reduceEq, Int.reduceNe, Int.reduceLT, Int.reduceLE, Int.reduceGT, Int.reduceGE, h0, h3, h5, h6, h7, hN3', q1]
      · have q1 : (op.kind = 1) = False := eq_false k1
        by_cases k2 : op.kind = 2
        · have q2 : (op.kind = 2) = True := eq_true k2
          simp -implicitDefEqProofs (maxSteps := 1000000) (disch := omega) only [↓xsP, ↓vc_seq, xsQ, xsT, xsR, xsD, ↓reduceIte, reduceCtorEq, eq_self, ne_eq, imp_self, forall_const, Nat.reduceEqDiff, Nat.reduceAdd, Nat.reduceSub, Nat.reduceMul, Nat.reduceLT, Nat.reduceLeDiff, Nat.reduceBEq, Nat.reduceDiv, Nat.reduceMod, Int.reduceToNat, Int.reduceNeg, Int.reduceAdd, Int.reduceSub, Int.reduceMul, Int.reduceEq, Int.reduceNe, Int.reduceLT, Int.reduceLE, Int.reduceGT, Int.reduceGE, h0, h3, h5, h6, h7, hN3', q1, q2, false_or]
        · have q2 : (op.kind = 2) = False := eq_false k2
          simp -implicitDefEqProofs (maxSteps := 1000000) (disch := omega) only [↓xsP, ↓vc_seq, xsQ, xsT, xsR, xsD, ↓reduceIte, reduceCtorEq, eq_self, ne_eq, imp_self, forall_const, Nat.reduceEqDiff, Nat.reduceAdd, Nat.reduceSub, Nat.reduceMul, Nat.reduceLT, Nat.reduceLeDiff, Nat.reduceBEq, Nat.reduceDiv, Nat.reduceMod, Int.reduceToNat, Int.reduceNeg, Int.reduceAdd, Int.reduceSub, Int.reduceMul, Int.reduceEq, Int.reduceNe, Int.reduceLT, Int.reduceLE, Int.reduceGT, Int.reduceGE, h0, h3, h5, h6, h7, hN3', q1, q2, false_or]
    · clear h0 h3 h5 h6 h7
      rintro fr N' ⟨rfl, h0, h3, h5, h6, h7, h19⟩
      simp -implicitDefEqProofs (maxSteps := 1000000) (disch := omega) only [↓xsP, xsQ, xsT, xsR, xsD, ↓reduceIte, reduceCtorEq, eq_self, ne_eq, imp_self, forall_const, Nat.reduceEqDiff, Nat.reduceAdd, Nat.reduceSub, Nat.reduceMul, Nat.reduceLT, Nat.reduceLeDiff, Nat.reduceBEq, Nat.reduceDiv, Nat.reduceMod, Int.reduceToNat, Int.reduceNeg, Int.reduceAdd, Int.reduceSub, Int.reduceMul, Int.reduceEq, Int.reduceNe, Int.reduceLT, Int.reduceLE, Int.reduceGT, Int.reduceGE, h19]
      refine condI_prop (fun hc => ?_) (fun hc => ?_)
      · refine vc_seq_of ?_
        simp -implicitDefEqProofs (maxSteps := 1000000) (disch := omega) only [↓xsP, xsQ, xsT, xsR, xsD, ↓reduceIte, reduceCtorEq, eq_self, ne_eq, imp_self, forall_const, Nat.reduceEqDiff, Nat.reduceAdd, Nat.reduceSub, Nat.reduceMul, Nat.reduceLT, Nat.reduceLeDiff, Nat.reduceBEq, Nat.reduceDiv, Nat.reduceMod, Int.reduceToNat, Int.reduceNeg, Int.reduceAdd, Int.reduceSub, Int.reduceMul, Int.reduceEq, Int.reduceNe, Int.reduceLT, Int.reduceLE, Int.reduceGT, Int.reduceGE, h0, h3, h5, h6, h7]
        refine xwrite (fun n0 => [ (9, id5)]) [9] [] [[], [], [], [], [], [], [], [], [], []] (by kernel_rfl) (by kernel_rfl) (by kernel_rfl) (by kernel_rfl) (fun n0 hn0 => ⟨rfl, ?_, ?_⟩)
        · exact TOk_cons (.inl (lt_of_bnd hn0 hN5)) (TOk_nil _ _)
        · have h5n := lt_of_bnd hn0 hN5
          have h3n := lt_of_bnd hn0 hN3
          have h6n := lt_of_bnd hn0 hN6
          simp -implicitDefEqProofs (maxSteps := 1000000) (disch := omega) only [↓xsP, ↓vc_seq, xsQ, xsT, xsR, xsD, ↓reduceIte, reduceCtorEq, eq_self, ne_eq, imp_self, forall_const, Nat.reduceEqDiff, Nat.reduceAdd, Nat.reduceSub, Nat.reduceMul, Nat.reduceLT, Nat.reduceLeDiff, Nat.reduceBEq, Nat.reduceDiv, Nat.reduceMod, Int.reduceToNat, Int.reduceNeg, Int.reduceAdd, Int.reduceSub, Int.reduceMul, Int.reduceEq, Int.reduceNe, Int.reduceLT, Int.reduceLE, Int.reduceGT, Int.reduceGE, h0, h3, h5, h6, h7, hN3']
          refine ⟨.l (.sl ((withL l ⟨op.key, op.val⟩).map Pr.row)), [], fun M' hle => XCalls.mono (with_spec l hl ⟨op.key, op.val⟩ M') (by rintro _ _ ⟨rfl, rfl⟩; exact ⟨rfl, Mem.le_refl _⟩), ?_⟩
          simp -implicitDefEqProofs (maxSteps := 1000000) (disch := omega) only [↓xsP, ↓vc_seq, xsQ, xsT, xsR, xsD, ↓reduceIte, reduceCtorEq, eq_self, ne_eq, imp_self, forall_const, Nat.reduceEqDiff, Nat.reduceAdd, Nat.reduceSub, Nat.reduceMul, Nat.reduceLT, Nat.reduceLeDiff, Nat.reduceBEq, Nat.reduceDiv, Nat.reduceMod, Int.reduceToNat, Int.reduceNeg, Int.reduceAdd, Int.reduceSub, Int.reduceMul, Int.reduceEq, Int.reduceNe, Int.reduceLT, Int.reduceLE, Int.reduceGT, Int.reduceGE, h0, h3, h5, h6, h7, hN5, hN6, arow]
          refine hend _ _ (Mem.le_set hMN (hid5 _ (Nat.le_refl _))) (Mem.set_eq _ _ _) ?_
          rw [oneL, if_pos hc]
      · refine vc_cut (fun fr N => N = N' ∧ fr 0 = .l (.sl (l.map Pr.row)) ∧ fr 3 = .l (.ptr id3 0 0) ∧ fr 5 = .l (.ptr id5 0 0) ∧ fr 6 = .l (.ptr id6 0 0) ∧ fr 7 = .l (.int .i64 (place l op.key)) ∧ fr 40 = .l (.bool (decide (op.kind = 3 ∧ 0 ≤ place l op.key)))) ?_ ?_
        · by_cases k3 : op.kind = 3
          · have q3 : (op.kind = 3) = True := eq_true k3
            simp -implicitDefEqProofs (maxSteps := 1000000) (disch := omega) only [↓xsP, ↓vc_seq, xsQ, xsT, xsR, xsD, ↓reduceIte, reduceCtorEq, eq_self, ne_eq, imp_self, forall_const, Nat.reduceEqDiff, Nat.reduceAdd, Nat.reduceSub, Nat.reduceMul, Nat.reduceLT, Nat.reduceLeDiff, Nat.reduceBEq, Nat.reduceDiv, Nat.reduceMod, Int.reduceToNat, Int.reduceNeg, Int.reduceAdd, Int.reduceSub, Int.reduceMul, Int.reduceEq, Int.reduceNe, Int.reduceLT, Int.reduceLE, Int.reduceGT, Int.reduceGE, h0, h3, h5, h6, h7, hN3', q3]
          · have q3 : (op.kind = 3) = False := eq_false k3
            simp -implicitDefEqProofs (maxSteps := 1000000) (disch := omega) only [↓xsP, ↓vc_seq, xsQ, xsT, xsR, xsD, ↓reduceIte, reduceCtorEq, eq_self, ne_eq, imp_self, forall_const, Nat.reduceEqDiff, Nat.reduceAdd, Nat.reduceSub, Nat.reduceMul, Nat.reduceLT, Nat.reduceLeDiff, Nat.reduceBEq, Nat.reduceDiv, Nat.reduceMod, Int.reduceToNat, Int.reduceNeg, Int.reduceAdd, Int.reduceSub, Int.reduceMul, Int.reduceEq, Int.reduceNe, Int.reduceLT, Int.reduceLE, Int.reduceGT, Int.reduceGE, h0, h3, h5, h6, h7, hN3', q3]
        · clear h0 h3 h5 h6 h7 h19
          rintro fr N ⟨rfl, h0, h3, h5, h6, h7, h40⟩
          simp -implicitDefEqProofs (maxSteps := 1000000) (disch := omega) only [↓xsP, xsQ, xsT, xsR, xsD, ↓reduceIte, reduceCtorEq, eq_self, ne_eq, imp_self, forall_const, Nat.reduceEqDiff, Nat.reduceAdd, Nat.reduceSub, Nat.reduceMul, Nat.reduceLT, Nat.reduceLeDiff, Nat.reduceBEq, Nat.reduceDiv, Nat.reduceMod, Int.reduceToNat, Int.reduceNeg, Int.reduceAdd, Int.reduceSub, Int.reduceMul, Int.reduceEq, Int.reduceNe, Int.reduceLT, Int.reduceLE, Int.reduceGT, Int.reduceGE, h40]
          refine condI_prop (fun hc2 => ?_) (fun hc2 => ?_)
          · refine vc_seq_of ?_
            simp -implicitDefEqProofs (maxSteps := 1000000) (disch := omega) only [↓xsP, xsQ, xsT, xsR, xsD, ↓reduceIte, reduceCtorEq, eq_self, ne_eq, imp_self, forall_const, Nat.reduceEqDiff, Nat.reduceAdd, Nat.reduceSub, Nat.reduceMul, Nat.reduceLT, Nat.reduceLeDiff, Nat.reduceBEq, Nat.reduceDiv, Nat.reduceMod, Int.reduceToNat, Int.reduceNeg, Int.reduceAdd, Int.reduceSub, Int.reduceMul, Int.reduceEq, Int.reduceNe, Int.reduceLT, Int.reduceLE, Int.reduceGT, Int.reduceGE, h0, h3, h5, h6, h7]
            refine xwrite (fun n0 => [ (11, id5)]) [11] [7] [[], [], [], [], [], [], [], [], [], [7], [], []] (by kernel_rfl) (by kernel_rfl) (by kernel_rfl) (by kernel_rfl) (fun n0 hn0 => ⟨rfl, ?_, ?_⟩)
            · exact TOk_cons (.inl (lt_of_bnd hn0 hN5)) (TOk_nil _ _)
            · have h5n := lt_of_bnd hn0 hN5
              have h3n := lt_of_bnd hn0 hN3
              have h6n := lt_of_bnd hn0 hN6
              obtain ⟨i, hi⟩ := Int.eq_ofNat_of_zero_le hc2.2
              have hin : i < l.length := by omega
              have q0 : (0 ≤ (i : Int)) = True := eq_true (by omega)
              have q1 : (0 ≤ (i : Int) + 1) = True := eq_true (by omega)
              have q2 : (i ≤ l.length) = True := eq_true (by omega)
              have q3 : (i + 1 ≤ l.length) = True := eq_true (by omega)
              have hrows : (∀ r, r ∈ l.map Pr.row → r.length = 2) = True := eq_true (rows2 l)
              have hdr : List.take (l.length - (i + 1)) (List.drop (i + 1) (l.map Pr.row)) = (l.drop (i + 1)).map Pr.row := by
                rw [List.take_of_length_le (by simp), List.map_drop]
              simp -implicitDefEqProofs (maxSteps := 1000000) (disch := omega) only [↓xsP, ↓vc_seq, xsQ, xsT, xsR, xsD, ↓reduceIte, reduceCtorEq, eq_self, ne_eq, imp_self, forall_const, Nat.reduceEqDiff, Nat.reduceAdd, Nat.reduceSub, Nat.reduceMul, Nat.reduceLT, Nat.reduceLeDiff, Nat.reduceBEq, Nat.reduceDiv, Nat.reduceMod, Int.reduceToNat, Int.reduceNeg, Int.reduceAdd, Int.reduceSub, Int.reduceMul, Int.reduceEq, Int.reduceNe, Int.reduceLT, Int.reduceLE, Int.reduceGT, Int.reduceGE, h0, h3, h5, h6, h7, hN3', hi, q0, q1, q2, q3, hrows, hdr, ← List.map_take]
              refine ⟨.inl (by decide), ?_⟩
              have hL : [l.take i, l.drop (i + 1)].flatten = oneL l op := by
                rw [oneL, if_neg hc, if_pos hc2, hi]
                simp
              refine ⟨.l (.sl ((oneL l op).map Pr.row)), [], fun M' hle => ?_, ?_⟩
              · have hcc := concat_spec [l.take i, l.drop (i + 1)] [.sl ((l.take i).map Pr.row), .sl ((l.drop (i + 1)).map Pr.row)] rfl (by simp) (by simp; omega) (n0 + 7) M' (hle _ _ (Mem.set_eq _ _ _)) (fun j hj => by
                  match j, hj with
                  | 0, _ => exact .inl rfl
                  | 1, _ => exact .inl rfl)
                rw [hL] at hcc
                refine XCalls.mono hcc ?_
                rintro _ _ ⟨rfl, rfl⟩
                exact ⟨rfl, Mem.le_refl _⟩
              · simp -implicitDefEqProofs (maxSteps := 1000000) (disch := omega) only [↓xsP, ↓vc_seq, xsQ, xsT, xsR, xsD, ↓reduceIte, reduceCtorEq, eq_self, ne_eq, imp_self, forall_const, Nat.reduceEqDiff, Nat.reduceAdd, Nat.reduceSub, Nat.reduceMul, Nat.reduceLT, Nat.reduceLeDiff, Nat.reduceBEq, Nat.reduceDiv, Nat.reduceMod, Int.reduceToNat, Int.reduceNeg, Int.reduceAdd, Int.reduceSub, Int.reduceMul, Int.reduceEq, Int.reduceNe, Int.reduceLT, Int.reduceLE, Int.reduceGT, Int.reduceGE, h0, h3, h5, h6, h7, hN5, hN6, arow]
                refine hend _ _ ?_ (Mem.set_eq _ _ _) rfl
                refine Mem.le_set (fun j b hj => ?_) (hid5 _ (Nat.le_refl _))
                have h1 := hMN _ _ hj
                rw [Mem.set_ne _ _ _ _ (by have := lt_of_bnd hn0 h1; omega)]
                exact h1
          · simp -implicitDefEqProofs (maxSteps := 1000000) (disch := omega) only [↓xsP, xsQ, xsT, xsR, xsD, ↓reduceIte, reduceCtorEq, eq_self, ne_eq, imp_self, forall_const, Nat.reduceEqDiff, Nat.reduceAdd, Nat.reduceSub, Nat.reduceMul, Nat.reduceLT, Nat.reduceLeDiff, Nat.reduceBEq, Nat.reduceDiv, Nat.reduceMod, Int.reduceToNat, Int.reduceNeg, Int.reduceAdd, Int.reduceSub, Int.reduceMul, Int.reduceEq, Int.reduceNe, Int.reduceLT, Int.reduceLE, Int.reduceGT, Int.reduceGE, h0, h3, h5, h6, h7]
            refine vc_seq_of ?_
            simp -implicitDefEqProofs (maxSteps := 1000000) (disch := omega) only [↓xsP, xsQ, xsT, xsR, xsD, ↓reduceIte, reduceCtorEq, eq_self, ne_eq, imp_self, forall_const, Nat.reduceEqDiff, Nat.reduceAdd, Nat.reduceSub, Nat.reduceMul, Nat.reduceLT, Nat.reduceLeDiff, Nat.reduceBEq, Nat.reduceDiv, Nat.reduceMod, Int.reduceToNat, Int.reduceNeg, Int.reduceAdd, Int.reduceSub, Int.reduceMul, Int.reduceEq, Int.reduceNe, Int.reduceLT, Int.reduceLE, Int.reduceGT, Int.reduceGE, h0, h3, h5, h6, h7]
            refine xwrite (fun n0 => [ (4, id5)]) [4] [] [[], [], [], [], []] (by kernel_rfl) (by kernel_rfl) (by kernel_rfl) (by kernel_rfl) (fun n0 hn0 => ⟨rfl, ?_, ?_⟩)
            · exact TOk_cons (.inl (lt_of_bnd hn0 hN5)) (TOk_nil _ _)
            · have h5n := lt_of_bnd hn0 hN5
              have h3n := lt_of_bnd hn0 hN3
              have h6n := lt_of_bnd hn0 hN6
              simp -implicitDefEqProofs (maxSteps := 1000000) (disch := omega) only [↓xsP, ↓vc_seq, xsQ, xsT, xsR, xsD, ↓reduceIte, reduceCtorEq, eq_self, ne_eq, imp_self, forall_const, Nat.reduceEqDiff, Nat.reduceAdd, Nat.reduceSub, Nat.reduceMul, Nat.reduceLT, Nat.reduceLeDiff, Nat.reduceBEq, Nat.reduceDiv, Nat.reduceMod, Int.reduceToNat, Int.reduceNeg, Int.reduceAdd, Int.reduceSub, Int.reduceMul, Int.reduceEq, Int.reduceNe, Int.reduceLT, Int.reduceLE, Int.reduceGT, Int.reduceGE, h0, h3, h5, h6, h7, hN3']
              refine ⟨.l (.sl (l.map Pr.row)), [], fun M' hle => XCalls.mono (clone_spec l hl M') (by rintro _ _ ⟨rfl, rfl⟩; exact ⟨rfl, Mem.le_refl _⟩), ?_⟩
              simp -implicitDefEqProofs (maxSteps := 1000000) (disch := omega) only [↓xsP, ↓vc_seq, xsQ, xsT, xsR, xsD, ↓reduceIte, reduceCtorEq, eq_self, ne_eq, imp_self, forall_const, Nat.reduceEqDiff, Nat.reduceAdd, Nat.reduceSub, Nat.reduceMul, Nat.reduceLT, Nat.reduceLeDiff, Nat.reduceBEq, Nat.reduceDiv, Nat.reduceMod, Int.reduceToNat, Int.reduceNeg, Int.reduceAdd, Int.reduceSub, Int.reduceMul, Int.reduceEq, Int.reduceNe, Int.reduceLT, Int.reduceLE, Int.reduceGT, Int.reduceGE, h0, h3, h5, h6, h7, hN5, hN6, arow]
              refine hend _ _ (Mem.le_set hMN (hid5 _ (Nat.le_refl _))) (Mem.set_eq _ _ _) ?_
              rw [oneL, if_neg hc, if_neg hc2]
end Go.X
