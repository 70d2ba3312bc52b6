/- The program logic: regions whose order is drawn. -/
import Derived.Test.YthgppaccdlcaiaaXm
import Derived.Orders
set_option linter.unusedVariables false
set_option linter.unusedSimpArgs false
set_option linter.unusedSectionVars false
namespace Go.X
open Go.RowKit

/-! ### which operation stands before which -/
def bpreds (o : Oper) : List Nat := (o.after.toList.filter fun e => Region.binds .any e).map (·.on)
def ancStep (acc : List Nat) (o : Oper) : Nat := (bpreds o).foldl (fun m e => m ||| (1 <<< e) ||| acc.getD e 0) 0
def ancGo : List Oper → List Nat → List Nat
  | [], acc => acc
  | o :: r, acc => ancGo r (acc ++ [ancStep acc o])
def ancM (ops : List Oper) : List Nat := ancGo ops []
def anc (ops : List Oper) (i j : Nat) : Bool := ((ancM ops).getD i 0).testBit j

def Closed (ops : List Oper) (L : Nat → Bool) : Prop := ∀ i o, ops[i]? = some o → L i = true → ∀ e ∈ bpreds o, L e = true

theorem ancFold {acc : List Nat} {j : Nat} (l : List Nat) : ∀ m : Nat, (l.foldl (fun m e => m ||| (1 <<< e) ||| acc.getD e 0) m).testBit j = true → m.testBit j = true ∨ ∃ e ∈ l, j = e ∨ (acc.getD e 0).testBit j = true := by
  induction l with
  | nil => intro m h; exact .inl h
  | cons e l ih =>
    intro m h
    rcases ih _ h with h | ⟨e', he', h⟩
    · rw [Nat.testBit_or, Nat.testBit_or, Bool.or_eq_true, Bool.or_eq_true] at h
      rcases h with (h | h) | h
      · exact .inl h
      · refine .inr ⟨e, by simp, .inl ?_⟩
        rw [Nat.one_shiftLeft, Nat.testBit_two_pow] at h
        exact (of_decide_eq_true h).symm
      · exact .inr ⟨e, by simp, .inr h⟩
    · exact .inr ⟨e', by simp [he'], h⟩

theorem ancGo_sound {ops : List Oper} {L : Nat → Bool} (hc : Closed ops L) : ∀ (r : List Oper) (acc : List Nat) (k : Nat), acc.length = k → ops.drop k = r →
    (∀ (i : Nat) (o : Oper), i < k → ops[i]? = some o → (∀ e ∈ bpreds o, L e = true) → ∀ j, (acc.getD i 0).testBit j = true → L j = true) →
    ∀ (i : Nat) (o : Oper), ops[i]? = some o → (∀ e ∈ bpreds o, L e = true) → ∀ j, ((ancGo r acc).getD i 0).testBit j = true → L j = true := by
  intro r
  induction r with
  | nil =>
    intro acc k hk hd hacc i o ho hp j hj
    have hi : i < k := by
      have h1 := (List.getElem?_eq_some_iff.1 ho).1
      have h2 : ops.length ≤ k := by
        have := congrArg List.length hd
        simp at this
        omega
      omega
    exact hacc i o hi ho hp j hj
  | cons o' r ih =>
    intro acc k hk hd hacc
    have hok : ops[k]? = some o' := by
      have := congrArg List.head? hd
      rw [List.head?_drop] at this
      simpa using this
    refine ih (acc ++ [ancStep acc o']) (k + 1) (by simp [hk]) (by rw [← List.drop_drop, hd]; rfl) fun i o hi ho hp j hj => ?_
    by_cases hik : i < k
    · rw [List.getD_eq_getElem?_getD, List.getElem?_append_left (by omega), ← List.getD_eq_getElem?_getD] at hj
      exact hacc i o hik ho hp j hj
    · have hik : i = k := by omega
      subst hik
      rw [hok, Option.some.injEq] at ho
      subst ho
      rw [List.getD_eq_getElem?_getD, List.getElem?_append_right (by omega), hk, Nat.sub_self] at hj
      simp only [List.getElem?_cons_zero, Option.getD_some] at hj
      rcases ancFold _ _ hj with h | ⟨e, he, h | h⟩
      · simp at h
      · rw [h]; exact hp e he
      · by_cases hek : e < i
        · obtain ⟨o2, ho2⟩ : ∃ o2, ops[e]? = some o2 := ⟨ops[e]'(by have := (List.getElem?_eq_some_iff.1 hok).1; omega), List.getElem?_eq_getElem _⟩
          exact hacc e o2 hek ho2 (hc e o2 ho2 (hp e he)) j h
        · rw [List.getD_eq_getElem?_getD, List.getElem?_eq_none (by omega)] at h
          simp at h

theorem anc_sound {ops : List Oper} {L : Nat → Bool} (hc : Closed ops L) {i : Nat} {o : Oper} (ho : ops[i]? = some o) (hp : ∀ e ∈ bpreds o, L e = true) {j : Nat} (hj : anc ops i j = true) : L j = true :=
  ancGo_sound hc ops [] 0 rfl rfl (fun i o hi => by omega) i o ho hp j hj

/-! ### frames -/
def dstOf (ops : List Oper) (i : Nat) : Option Nat := (ops[i]?).bind (·.dst)
/-- The frame, when the operations of L are done. -/
def frS (ops : List Oper) (v : Nat → AV) (fr : Fr) (L : Nat → Bool) : Nat → Fr
  | 0 => fr
  | n + 1 => if L n then updO (frS ops v fr L n) (dstOf ops n) (v n) else frS ops v fr L n
/-- The frame, when the first ones are done. -/
def frT (ops : List Oper) (v : Nat → AV) (fr : Fr) : Nat → Fr
  | 0 => fr
  | n + 1 => updO (frT ops v fr n) (dstOf ops n) (v n)

theorem updO_ne {fr : Fr} {x : Option Nat} {v : AV} {d : Nat} (h : x ≠ some d) : updO fr x v d = fr d := by
  cases x with
  | none => rfl
  | some e =>
    have : e ≠ d := fun he => h (by rw [he])
    simp [updO, upd, this]
theorem updO_eq {fr : Fr} {x : Option Nat} {v : AV} {d : Nat} (h : x = some d) : updO fr x v d = v := by subst h; simp [updO, upd]

theorem frS_T {ops : List Oper} {v : Nat → AV} {fr : Fr} {L : Nat → Bool} {i d : Nat} : ∀ n, (∀ j, j < n → dstOf ops j = some d → L j = decide (j < i)) → frS ops v fr L n d = frT ops v fr (min n i) d := by
  intro n
  induction n with
  | zero => intro h; simp [frS, frT]
  | succ n ih =>
    intro h
    have ih := ih fun j hj => h j (by omega)
    unfold frS
    by_cases hni : n < i
    · rw [show min (n + 1) i = min n i + 1 by omega, show min n i = n by omega]
      rw [show min n i = n by omega] at ih
      by_cases hd : dstOf ops n = some d
      · rw [h n (by omega) hd, if_pos (by simp [hni]), frT, updO_eq hd, updO_eq hd]
      · rw [frT, updO_ne hd]
        split
        · rw [updO_ne hd, ih]
        · exact ih
    · rw [show min (n + 1) i = min n i by omega]
      by_cases hd : dstOf ops n = some d
      · rw [h n (by omega) hd, if_neg (by simp [hni]), ih]
      · split
        · rw [updO_ne hd, ih]
        · exact ih

theorem frS_val {ops : List Oper} {v : Nat → AV} {fr : Fr} {L : Nat → Bool} {i d : Nat} (hL : L i = true) (hd : dstOf ops i = some d) : ∀ n, i < n → (∀ j, i < j → j < n → dstOf ops j = some d → L j = false) → frS ops v fr L n d = v i := by
  intro n
  induction n with
  | zero => intro h; omega
  | succ n ih =>
    intro hi hj
    unfold frS
    by_cases hin : i = n
    · subst hin
      rw [if_pos hL, updO_eq hd]
    · have ih := ih (by omega) fun j h1 h2 => hj j h1 (by omega)
      by_cases hdn : dstOf ops n = some d
      · rw [if_neg (by rw [hj n (by omega) (by omega) hdn]; simp), ih]
      · split
        · rw [updO_ne hdn, ih]
        · exact ih

theorem frS_agree {ops : List Oper} {v : Nat → AV} {fr : Fr} {L L' : Nat → Bool} {d : Nat} : ∀ n, (∀ j, j < n → dstOf ops j = some d → L j = L' j) → frS ops v fr L n d = frS ops v fr L' n d := by
  intro n
  induction n with
  | zero => intro h; rfl
  | succ n ih =>
    intro h
    have ih := ih fun j hj => h j (by omega)
    unfold frS
    by_cases hd : dstOf ops n = some d
    · rw [h n (by omega) hd]
      split
      · rw [updO_eq hd, updO_eq hd]
      · exact ih
    · split <;> split
      · rw [updO_ne hd, updO_ne hd, ih]
      · rw [updO_ne hd, ih]
      · rw [updO_ne hd, ih]
      · exact ih

/-- One more is done. -/
def ins (L : Nat → Bool) (i : Nat) : Nat → Bool := fun j => decide (j = i) || L j

theorem frS_ins {ops : List Oper} {v : Nat → AV} {fr : Fr} {L : Nat → Bool} {i n : Nat} (hi : i < n) (hL : L i = false) (hj : ∀ j d, i < j → dstOf ops i = some d → dstOf ops j = some d → L j = false) :
    frS ops v fr (ins L i) n = updO (frS ops v fr L n) (dstOf ops i) (v i) := by
  funext d
  by_cases hd : dstOf ops i = some d
  · rw [updO_eq hd]
    refine frS_val (by simp [ins]) hd n hi fun j h1 h2 h3 => ?_
    simp only [ins, Bool.or_eq_false_iff, decide_eq_false_iff_not]
    exact ⟨by omega, hj j d h1 hd h3⟩
  · rw [updO_ne hd]
    refine frS_agree n fun j h1 h2 => ?_
    have : j ≠ i := fun e => hd (e ▸ h2)
    simp [ins, this]

theorem frS_all {ops : List Oper} {v : Nat → AV} {fr : Fr} {L : Nat → Bool} : ∀ n, (∀ j, j < n → L j = true) → frS ops v fr L n = frT ops v fr n := by
  intro n
  induction n with
  | zero => intro h; rfl
  | succ n ih =>
    intro h
    unfold frS frT
    rw [if_pos (h n (by omega)), ih fun j hj => h j (by omega)]
theorem frS_none {ops : List Oper} {v : Nat → AV} {fr : Fr} {L : Nat → Bool} : ∀ n, (∀ j, j < n → L j = false) → frS ops v fr L n = fr := by
  intro n
  induction n with
  | zero => intro h; rfl
  | succ n ih =>
    intro h
    unfold frS
    rw [if_neg (by rw [h n (by omega)]; simp), ih fun j hj => h j (by omega)]
theorem frT_congr {ops : List Oper} {v v' : Nat → AV} {fr : Fr} : ∀ n, (∀ j, j < n → v j = v' j) → frT ops v fr n = frT ops v' fr n := by
  intro n
  induction n with
  | zero => intro h; rfl
  | succ n ih =>
    intro h
    unfold frT
    rw [h n (by omega), ih fun j hj => h j (by omega)]

/-! ### what the kernel looks at -/
/-- The slots that an operation looks at. -/
def readsOf (ops : List Oper) (o : Oper) : List Nat :=
  (o.op.operands.toList.filterMap fun | .tmp t => some t | _ => none) ++ (match o.guard with | some (j, _) => (gslot ops j).toList | none => [])
def idxOk (A : List Nat) (ops : List Oper) (i : Nat) (o : Oper) : Bool :=
  (bpreds o).all (fun e => decide (e < i)) &&
  (readsOf ops o).all (fun d => (List.range ops.length).all fun j => dstOf ops j != some d || j == i || (if j < i then (A.getD i 0).testBit j else (A.getD j 0).testBit i)) &&
  (match o.dst with | none => true | some d => (List.range ops.length).all fun j => dstOf ops j != some d || decide (j ≤ i) || (A.getD j 0).testBit i)
def idxAll (A : List Nat) (ops : List Oper) : List Oper → Nat → Bool
  | [], _ => true
  | o :: r, i => idxOk A ops i o && idxAll A ops r (i + 1)
def drawOk (ops : List Oper) : Bool := idxAll (ancM ops) ops ops 0

theorem idxAll_get {A : List Nat} {ops : List Oper} : ∀ (r : List Oper) (k : Nat), idxAll A ops r k = true → ∀ (i : Nat) (o : Oper), r[i]? = some o → idxOk A ops (k + i) o = true := by
  intro r
  induction r with
  | nil => intro k _ i o h; simp at h
  | cons x r ih =>
    intro k h i o ho
    simp only [idxAll, Bool.and_eq_true] at h
    cases i with
    | zero => simp only [List.getElem?_cons_zero, Option.some.injEq] at ho; subst ho; exact h.1
    | succ i => rw [show k + (i + 1) = (k + 1) + i by omega]; exact ih (k + 1) h.2 i o (by simpa using ho)

structure IdxSpec (ops : List Oper) (i : Nat) (o : Oper) : Prop where
  lt : ∀ e ∈ bpreds o, e < i
  rd : ∀ d ∈ readsOf ops o, ∀ j, j < ops.length → dstOf ops j = some d → j = i ∨ (j < i ∧ anc ops i j = true) ∨ (i < j ∧ anc ops j i = true)
  wr : ∀ d, o.dst = some d → ∀ j, j < ops.length → i < j → dstOf ops j = some d → anc ops j i = true

theorem drawOk_get {ops : List Oper} (h : drawOk ops = true) {i : Nat} {o : Oper} (ho : ops[i]? = some o) : IdxSpec ops i o := by
  have h := idxAll_get ops 0 h i o ho
  rw [Nat.zero_add] at h
  simp only [idxOk, Bool.and_eq_true] at h
  obtain ⟨⟨h1, h2⟩, h3⟩ := h
  refine ⟨fun e he => of_decide_eq_true (List.all_eq_true.1 h1 e he), fun d hd j hj hdj => ?_, fun d hd j hj hij hdj => ?_⟩
  · have := List.all_eq_true.1 (List.all_eq_true.1 h2 d hd) j (by simpa using hj)
    simp only [Bool.or_eq_true, bne_iff_ne, ne_eq, hdj, not_true_eq_false, false_or, beq_iff_eq] at this
    rcases this with this | this
    · exact .inl this
    · by_cases hji : j < i
      · rw [if_pos hji] at this; exact .inr (.inl ⟨hji, this⟩)
      · rw [if_neg hji] at this
        by_cases hje : j = i
        · exact .inl hje
        · exact .inr (.inr ⟨by omega, this⟩)
  · rw [hd] at h3
    have := List.all_eq_true.1 h3 j (by simpa using hj)
    simp only [Bool.or_eq_true, bne_iff_ne, ne_eq, hdj, not_true_eq_false, false_or, decide_eq_true_eq] at this
    rcases this with this | this
    · omega
    · exact this

end Go.X
