/- Texts joined: Zc Oa Vd Ta Te Mb Md Oe Of Yi Aa Ab Sh Na Nb Nc Nd Ne Wi Ac Ad Ae Af. -/
import Derived.Shelf.Small.Wraps
import Derived.Shelf.Strconv.Atoi
import Derived.Shelf.Strconv.Itoa0
import Derived.Shelf.Strconv.Itoa1
import Derived.Shelf.LaysM
import Derived.Shelf.Strconv.Itoa2
import Derived.Shelf.Strconv.Itoa3
import Derived.Shelf.Strconv.AtoiErrFast
import Derived.Shelf.Strconv.ParseIntEmpty
import Derived.Shelf.Strconv.AtoiFail
import Derived.Shelf.Strconv.Clone
import Derived.Shelf.Strconv.SyntaxError
import Derived.Shelf.LaysC
import Derived.Shelf.Strconv.ToError
import Derived.Shelf.Strconv.AtoiErr
import Derived.Shelf.Strconv.ErrVar
import Derived.Shelf.Strconv.Lower
import Derived.Shelf.Strconv.ParseUint10
import Derived.Shelf.Strconv.ParseUint10Empty
import Derived.Shelf.Strconv.ParseUint10Any
import Derived.Shelf.Strconv.ParseInt10
import Derived.Shelf.Strconv.AtoiLong
import Derived.Shelf.Strconv.AtoiInnerAll
import Derived.Shelf.Strconv.RangeError
import Derived.Shelf.Strconv.ToErrorRange
import Derived.Shelf.Strconv.AtoiAll
import Derived.Shelf.Strconv.ErrVarAll
import Derived.Shelf.Strconv.AppendUint10
import Derived.Shelf.Strconv.AppendInt10
import Derived.Shelf.Strconv.AppendIntPublic10
import Derived.Shelf.Strings.Prefix
import Derived.Test.YtkbcijgbhkahlaaDoorProg
import Derived.OwnWalk
import Derived.WalkKit
import Derived.BigCall
import Derived.BigGuard
import Derived.CellFam
import Derived.Laws.Slices
import Derived.Lib.ItoaLen
import Derived.ChangeMaps5
import Derived.LaidLaws
import Derived.Test.YtkbcijgbhkahlaaDoorY2
set_option linter.unusedVariables false
set_option linter.unusedSimpArgs false
set_option maxRecDepth 100000
namespace Go.X

/-- The reference's state and that of past.read. -/
structure MInv (m : List Bool × List Opn) (s : List Cl × List (Int × Int)) : Prop where
  l1 : m.1.length = 6
  l2 : m.2.length = 6
  on : ∀ t : Nat, t < 6 → m.1.getD t false = (iget s.2 (t : Int)).isSome
  op : ∀ (t k : Nat), t < 6 → iget s.2 (t : Int) = some ((k : Int) + 1) → (s.1.getD k default).op = m.2.getD t default

theorem getD_set {α : Type} (l : List α) (d : α) (j k : Nat) (x : α) (hj : j < l.length) : (l.set j x).getD k d = if k = j then x else l.getD k d := by
  simp only [List.getD_eq_getElem?_getD, List.getElem?_set]
  by_cases h : j = k
  · subst h
    simp [hj]
  · simp [h, Ne.symm h]

theorem MInv.step {h : List Evt} {i : Nat} {x : Evt} {m m' : List Bool × List Opn} {s : List Cl × List (Int × Int)} (I : HInv h i s) (J : MInv m s) (hm : mstep x m = some m') : ∃ s', rstep i x s = some s' ∧ MInv m' s' := by
  obtain ⟨out, ms⟩ := s
  obtain ⟨on, ops⟩ := m
  have J1 := J.l1; have J2 := J.l2; have J3 := J.on; have J4 := J.op; have I5 := I.map
  simp only at J1 J2 J3 J4 I5
  simp only [mstep] at hm
  split at hm
  · cases hm
  · rename_i hw
    simp only [not_or, ne_eq, Decidable.not_not] at hw
    obtain ⟨w0, w1, hon⟩ := hw
    split at hm
    · cases hm
    · rename_i hc
      simp only [Option.some.injEq] at hm
      subst hm
      obtain ⟨t, ht⟩ := Int.eq_ofNat_of_zero_le (show 0 ≤ x.who by omega)
      have ht6 : t < 6 := by omega
      have htt : x.who.toNat = t := by omega
      rw [htt] at hon hc ⊢
      rw [J3 t ht6] at hon
      simp only [rstep]
      rw [if_neg (by omega)]
      cases hret : x.ret with
      | false =>
        rw [hret] at hon hc
        have hnone : iget ms (t : Int) = none := by
          cases hg : iget ms (t : Int) with
          | none => rfl
          | some v => rw [hg] at hon; simp at hon
        rw [if_pos rfl, ht, hnone]
        rw [if_neg (by
          simp only [Option.getD_none]
          rintro (h1 | h1)
          · omega
          · exact hc (.inl ⟨rfl, h1⟩))]
        refine ⟨_, rfl, by simpa using J1, by simpa using J2, fun u hu => ?_, fun u k hu hk => ?_⟩
        · simp only [getD_set _ _ _ _ _ (by omega : t < on.length), iget_put]
          by_cases e : u = t
          · subst e; simp
          · rw [if_neg e, if_neg (by omega)]
            exact J3 u hu
        · simp only [getD_set _ _ _ _ _ (by omega : t < ops.length)]
          rw [iget_put] at hk
          by_cases e : u = t
          · subst e
            rw [if_pos rfl, Option.some.injEq] at hk
            have : k = out.length := by omega
            subst this
            simp [gd_app]
          · rw [if_neg (by omega)] at hk
            rw [if_neg e]
            obtain ⟨k', e', hk', _⟩ := I5 _ _ hk
            have : k = k' := by omega
            subst this
            rw [gd_app, if_pos hk']
            exact J4 u k hu hk
      | true =>
        rw [hret] at hon hc
        obtain ⟨v, hv⟩ : ∃ v, iget ms (t : Int) = some v := by
          cases hg : iget ms (t : Int) with
          | none => rw [hg] at hon; simp at hon
          | some v => exact ⟨v, rfl⟩
        obtain ⟨k0, rfl, hk0, hwho, hfin⟩ := I5 _ _ hv
        have hop := J4 t k0 ht6 hv
        have e1 : ((k0 : Int) + 1 - 1).toNat = k0 := by omega
        rw [if_neg (by simp), ht, hv]
        simp only [Option.getD_some, e1]
        rw [if_neg (by
          rintro (h1 | h1)
          · omega
          · exact hc (.inr ⟨rfl, fun e => h1 (by rw [hop, e])⟩))]
        refine ⟨_, rfl, by simpa using J1, by simpa using J2, fun u hu => ?_, fun u k hu hk => ?_⟩
        · simp only [getD_set _ _ _ _ _ (by omega : t < on.length), iget_del I.nod]
          by_cases e : u = t
          · subst e; simp
          · rw [if_neg e, if_neg (by omega)]
            exact J3 u hu
        · simp only at hk
          rw [iget_del I.nod] at hk
          by_cases e : u = t
          · subst e
            rw [if_pos rfl] at hk
            cases hk
          · rw [if_neg (by omega)] at hk
            simp only [getD_set _ _ _ _ _ (by omega : t < ops.length)]
            rw [if_neg e, gd_set _ _ _ _ hk0]
            have hkk : k ≠ k0 := fun e' => by
              subst e'
              obtain ⟨k', e2, _, hw2, _⟩ := I5 _ _ hk
              have : k' = k := by omega
              subst this
              rw [hwho] at hw2
              omega
            rw [if_neg hkk]
            exact J4 u k hu hk

/-- From one moment on. -/
structure Ext (k : Nat) (a b : List Cl) : Prop where
  len : a.length ≤ b.length
  beg : ∀ i, i < a.length → (b.getD i default).beg = (a.getD i default).beg
  op : ∀ i, i < a.length → (b.getD i default).op = (a.getD i default).op
  fin : ∀ i, i < a.length → (b.getD i default).fin = (a.getD i default).fin ∨ ((a.getD i default).fin = -1 ∧ (k : Int) ≤ (b.getD i default).fin)
theorem Ext.refl (k : Nat) (a : List Cl) : Ext k a a := ⟨Nat.le_refl _, fun _ _ => rfl, fun _ _ => rfl, fun _ _ => .inl rfl⟩
theorem Ext.trans {k : Nat} {a b c : List Cl} (h : Ext k a b) (h' : Ext k b c) : Ext k a c where
  len := Nat.le_trans h.len h'.len
  beg i hi := (h'.beg i (Nat.lt_of_lt_of_le hi h.len)).trans (h.beg i hi)
  op i hi := (h'.op i (Nat.lt_of_lt_of_le hi h.len)).trans (h.op i hi)
  fin i hi := by
    rcases h.fin i hi with h1 | ⟨h1, h2⟩ <;> rcases h'.fin i (Nat.lt_of_lt_of_le hi h.len) with h3 | ⟨h3, h4⟩
    · exact .inl (h3.trans h1)
    · exact .inr ⟨by rw [← h1]; exact h3, h4⟩
    · exact .inr ⟨h1, by rw [h3]; exact h2⟩
    · exact .inr ⟨h1, h4⟩
end Go.X
set_option linter.unusedVariables false
set_option linter.unusedSimpArgs false
set_option maxHeartbeats 20000000
set_option maxRecDepth 100000
namespace Go.X
open Go.Proofs.Tryd (prog)

theorem take_sc {α : Type} (l : List α) (d : α) {i : Nat} (hi : i < l.length) : l.take (i + 1) = l.take i ++ [l.getD i d] := by
  rw [List.take_add_one, List.getD_eq_getElem?_getD, List.getElem?_eq_getElem hi]
  rfl
theorem getD_mem' {α : Type} (l : List α) (d : α) {i : Nat} (hi : i < l.length) : l.getD i d ∈ l := by
  rw [List.getD_eq_getElem?_getD, List.getElem?_eq_getElem hi]
  exact List.getElem_mem hi
end Go.X
set_option linter.unusedVariables false
set_option linter.unusedSimpArgs false
set_option maxHeartbeats 20000000
set_option maxRecDepth 100000
namespace Go.X
open Go.Proofs.Tryd (prog)

def place (l : List Pr) (k : Int) : Int := pidx (fun p => decide (p.key = k)) l 0
end Go.X
set_option linter.unusedVariables false
set_option linter.unusedSimpArgs false
set_option maxRecDepth 100000
namespace Go.X

def Asc (l : List Pr) : Prop := l.Pairwise fun a b => a.key < b.key
theorem rises_cons {x y : Pr} {r : List Pr} : Rises (x :: y :: r) ↔ x.key < y.key ∧ Rises (y :: r) := by
  constructor
  · intro h
    refine ⟨by simpa using h 1 (Nat.le_refl _) (by simp), fun j h1 h2 => ?_⟩
    have := h (j + 1) (by omega) (by simpa using h2)
    cases j with
    | zero => omega
    | succ j => simpa using this
  · rintro ⟨h, hr⟩ j h1 h2
    cases j with
    | zero => omega
    | succ j =>
      cases j with
      | zero => simpa using h
      | succ j => simpa using hr (j + 1) (by omega) (by simpa using h2)
theorem rises_asc : ∀ (l : List Pr), Rises l ↔ Asc l
  | [] => ⟨fun _ => List.Pairwise.nil, fun _ j h1 h2 => by simp at h2⟩
  | [x] => ⟨fun _ => List.pairwise_singleton _ _, fun _ j h1 h2 => by simp at h2; omega⟩
  | x :: y :: r => by
    rw [rises_cons, rises_asc (y :: r)]
    constructor
    · rintro ⟨h, hr⟩
      refine List.pairwise_cons.2 ⟨fun b hb => ?_, hr⟩
      rcases List.mem_cons.1 hb with rfl | hb
      · exact h
      · have := (List.pairwise_cons.1 hr).1 b hb
        omega
    · intro hr
      have h2 := List.pairwise_cons.1 hr
      exact ⟨h2.1 y (by simp), h2.2⟩

def Inn (k : Int) (A : List Pr) (x : Pr) (C l : List Pr) : Prop := l = A ++ x :: C ∧ x.key = k ∧ (∀ a ∈ A, a.key < k) ∧ ∀ c ∈ C, k < c.key
section
variable {k : Int} {A C l : List Pr} {x : Pr}
theorem Inn.get (h : Inn k A x C l) : l.getD A.length default = x := by
  obtain ⟨rfl, _⟩ := h
  simp [List.getD_eq_getElem?_getD]
end

end Go.X
set_option linter.unusedVariables false
set_option maxRecDepth 100000
namespace Go.X

/-- What is there at a key. -/
def look : List Pr → Int → Option Int
  | [], _ => none
  | p :: r, k => if p.key = k then some p.val else look r k
end Go.X
set_option linter.unusedVariables false
set_option linter.unusedSimpArgs false
set_option maxHeartbeats 20000000
set_option maxRecDepth 100000
namespace Go.X
open Go.Proofs.Tryd (prog)

/-- A row of pairs that is being made by append: its slice and the memory. -/
def OutP (M : Mem) (v : AV) (M' : Mem) (rows : List Pr) : Prop :=
  (rows = [] ∧ v = .l .nils ∧ M' = M) ∨ ∃ idO, (∀ j, idO ≤ j → M j = none) ∧ v = .l (.ms idO 0 rows.length) ∧ M' = M.set idO (.cells 79 (rows.map Pr.row) 0)
theorem OutP.nil (M : Mem) : OutP M (.l .nils) M [] := .inl ⟨rfl, rfl, rfl⟩
theorem OutP.val {M M' : Mem} {v : AV} {rows : List Pr} (h : OutP M v M' rows) : ∃ s, v = .l s := by
  rcases h with ⟨_, rfl, _⟩ | ⟨idO, _, rfl, _⟩
  · exact ⟨_, rfl⟩
  · exact ⟨_, rfl⟩
end Go.X
set_option linter.unusedVariables false
set_option linter.unusedSimpArgs false
set_option maxHeartbeats 20000000
set_option maxRecDepth 100000
namespace Go.X
open Go.Proofs.Tryd (prog)

/-- A slice of pairs that may be nil. -/
def IsL (x : Lf) (s : List Pr) : Prop := x = .sl (s.map Pr.row) ∨ s = [] ∧ x = .nils
theorem IsL.sl (s : List Pr) : IsL (.sl (s.map Pr.row)) s := .inl rfl
end Go.X
set_option linter.unusedVariables false
set_option linter.unusedSimpArgs false
set_option maxHeartbeats 20000000
set_option maxRecDepth 100000
namespace Go.X
open Go.Proofs.Tryd (prog)

/-- A slice of pairs that may be nil, or stand in a block that is kept. -/
def IsK (M : Mem) (x : Lf) (l : List Pr) : Prop := IsL x l ∨ ∃ id keep, M id = some (.cells 79 (l.map Pr.row) keep) ∧ l.length ≤ keep ∧ x = .ms id 0 l.length
theorem IsK.sl (M : Mem) (l : List Pr) : IsK M (.sl (l.map Pr.row)) l := .inl (.inl rfl)
theorem IsK.le {M N : Mem} {x : Lf} {l : List Pr} (h : IsK M x l) (hle : M.le N) : IsK N x l := by
  rcases h with h | ⟨id, keep, h1, h2, h3⟩
  · exact .inl h
  · exact .inr ⟨id, keep, hle _ _ h1, h2, h3⟩
end Go.X
set_option linter.unusedVariables false
set_option linter.unusedSimpArgs false
set_option maxRecDepth 100000
namespace Go.X

/-- What a leaf reads as: a slice of these rows that never changes. -/
def Rd (M : Mem) (x : Lf) (r : List (List Lf)) : Prop :=
  x = .sl r ∨ (r = [] ∧ x = .nils) ∨ ∃ id off n T rows keep, M id = some (.cells T rows keep) ∧ rows.length ≤ keep ∧ off + n ≤ rows.length ∧ r = (rows.drop off).take n ∧ x = .ms id off n
theorem Rd.sl (M : Mem) (r : List (List Lf)) : Rd M (.sl r) r := .inl rfl
theorem Rd.nils (M : Mem) : Rd M .nils [] := .inr (.inl ⟨rfl, rfl⟩)
theorem Rd.ms {M : Mem} {id T keep n : Nat} {rows : List (List Lf)} (h : M id = some (.cells T rows keep)) (hk : rows.length ≤ keep) (hn : n = rows.length) : Rd M (.ms id 0 n) rows :=
  .inr (.inr ⟨id, 0, n, T, rows, keep, h, hk, by omega, by rw [List.drop_zero, List.take_of_length_le (by omega)], rfl⟩)
theorem Rd.le {M N : Mem} {x : Lf} {r : List (List Lf)} (h : Rd M x r) (hle : M.le N) : Rd N x r := by
  rcases h with h | h | ⟨id, off, n, T, rows, keep, h1, h2, h3, h4, h5⟩
  · exact .inl h
  · exact .inr (.inl h)
  · exact .inr (.inr ⟨id, off, n, T, rows, keep, hle _ _ h1, h2, h3, h4, h5⟩)
theorem Rd.frz {M : Mem} {x : Lf} {r : List (List Lf)} (h : Rd M x r) {id T keep : Nat} {rows : List (List Lf)} (hM : M id = some (.cells T rows keep)) : Rd M (frzL id rows x) r := by
  rcases h with rfl | ⟨rfl, rfl⟩ | ⟨id', off, n, T', rows', keep', h1, h2, h3, rfl, rfl⟩
  · exact .inl rfl
  · exact .inr (.inl ⟨rfl, rfl⟩)
  · simp only [frzL]
    split
    · rename_i e
      obtain ⟨rfl, -⟩ := e
      rw [hM] at h1
      cases h1
      exact .inl rfl
    · exact .inr (.inr ⟨id', off, n, T', rows', keep', h1, h2, h3, rfl, rfl⟩)
theorem Rd.wk {M : Mem} {x : Lf} {r : List (List Lf)} (h : Rd M x r) : Rd M (wkL x) r := by
  rcases h with rfl | ⟨rfl, rfl⟩ | ⟨id', off, n, T', rows', keep', h1, h2, h3, rfl, rfl⟩
  · exact .inl rfl
  · exact .inl rfl
  · exact .inr (.inr ⟨id', off, n, T', rows', keep', h1, h2, h3, rfl, rfl⟩)
/-- A value that neither a freeze nor a weakening changes. -/
def Fast (a : AV) : Prop := wkA a = a ∧ ∀ id rows, frzA id rows a = a
theorem Fast.int (k : IntKind) (n : Int) : Fast (.l (.int k n)) := ⟨rfl, fun _ _ => rfl⟩
theorem Fast.bool (b : Bool) : Fast (.l (.bool b)) := ⟨rfl, fun _ _ => rfl⟩
theorem Fast.sl (r : List (List Lf)) : Fast (.l (.sl r)) := ⟨rfl, fun _ _ => rfl⟩
theorem Fast.ptr (i r c : Nat) : Fast (.l (.ptr i r c)) := ⟨rfl, fun _ _ => rfl⟩
theorem Fast.opn (o : Opn) : Fast (.agg o.row) := ⟨by simp [Opn.row, wkA, wkL], fun _ _ => by simp [Opn.row, frzA, frz1, frzL]⟩
theorem Fast.ans (o : Ans) : Fast (.agg o.row) := ⟨by simp [Ans.row, wkA, wkL], fun _ _ => by simp [Ans.row, frzA, frz1, frzL]⟩
def RdA (M : Mem) (a b : AV) : Prop := (a = b ∧ Fast b) ∨ ∃ x r, a = .l x ∧ b = .l (.sl r) ∧ Rd M x r
inductive RdAs (M : Mem) : List AV → List AV → Prop
  | nil : RdAs M [] []
  | cons {a b : AV} {l m : List AV} : RdA M a b → RdAs M l m → RdAs M (a :: l) (b :: m)
theorem RdA.frz {M : Mem} {a b : AV} (h : RdA M a b) {id T keep : Nat} {rows : List (List Lf)} (hM : M id = some (.cells T rows keep)) : RdA M (frzA id rows a) b := by
  rcases h with ⟨rfl, hf⟩ | ⟨x, r, rfl, rfl, h⟩
  · exact .inl ⟨hf.2 _ _, hf⟩
  · exact .inr ⟨_, r, rfl, rfl, h.frz hM⟩
theorem RdA.wk {M : Mem} {a b : AV} (h : RdA M a b) : RdA M (wkA a) b := by
  rcases h with ⟨rfl, hf⟩ | ⟨x, r, rfl, rfl, h⟩
  · exact .inl ⟨hf.1, hf⟩
  · exact .inr ⟨_, r, rfl, rfl, h.wk⟩
theorem RdAs.frz {M : Mem} {id T keep : Nat} {rows : List (List Lf)} (hM : M id = some (.cells T rows keep)) : ∀ {l m : List AV}, RdAs M l m → RdAs M (l.map (frzA id rows)) m
  | _, _, .nil => .nil
  | _, _, .cons h t => .cons (h.frz hM) (t.frz hM)
theorem RdAs.wk {M : Mem} : ∀ {l m : List AV}, RdAs M l m → RdAs M (l.map wkA) m
  | _, _, .nil => .nil
  | _, _, .cons h t => .cons h.wk t.wk
theorem XCalls.rds {P : Program} {f : FuncId} {M : Mem} {K : AV → Mem → Prop} : ∀ {m l done : List AV}, RdAs M l m → (∀ a ∈ done, Fast a) → XCalls P f (done ++ m) M K → XCalls P f (done ++ l) M K
  | [], l, done, h, hd, hx => by cases h; exact hx
  | b :: m, _, done, .cons (a := a) (l := l) h t, hd, hx => by
    have fin : ∀ {l' : List AV}, Fast b → RdAs M l' m → XCalls P f (done ++ b :: l') M K := fun {l'} hb ht => by
      have := XCalls.rds (done := done ++ [b]) ht (fun a ha => by rcases List.mem_append.1 ha with ha | ha; exact hd _ ha; rw [List.mem_singleton.1 ha]; exact hb) (by rw [List.append_assoc]; exact hx)
      rwa [List.append_assoc] at this
    have hdw : done.map wkA = done := by
      conv => rhs; rw [← List.map_id done]
      exact List.map_congr_left fun a ha => (hd a ha).1
    have hdf : ∀ id rows, done.map (frzA id rows) = done := fun id rows => by
      conv => rhs; rw [← List.map_id done]
      exact List.map_congr_left fun a ha => (hd a ha).2 id rows
    rcases h with ⟨rfl, hf⟩ | ⟨x, r, rfl, rfl, rfl | ⟨rfl, rfl⟩ | ⟨id, off, n, T, rows, keep, h1, h2, h3, rfl, rfl⟩⟩
    · exact fin hf t
    · exact fin (Fast.sl _) t
    · refine XCalls.wk ?_
      rw [List.map_append, hdw]
      exact fin (Fast.sl _) t.wk
    · refine XCalls.frz0 id h1 h2 ?_
      rw [List.map_append, hdf]
      have e : frzA id rows (.l (.ms id off n)) = .l (.sl ((rows.drop off).take n)) := by simp [frzA, frz1, frzL, h3]
      rw [List.map_cons, e]
      exact fin (Fast.sl _) (t.frz h1)
theorem XCalls.rd {P : Program} {f : FuncId} {M : Mem} {K : AV → Mem → Prop} {m l : List AV} (h : RdAs M l m) (hx : XCalls P f m M K) : XCalls P f l M K :=
  XCalls.rds (done := []) h (by simp) hx
end Go.X
set_option linter.unusedVariables false
set_option linter.unusedSimpArgs false
set_option maxHeartbeats 20000000
set_option maxRecDepth 100000
namespace Go.X
open Go.Proofs.Tryd (prog)

def c0 : Cl := ⟨1, 0, 2, ⟨4, 0, 0, 0⟩, ans0⟩
def c1 : Cl := ⟨0, 1, -1, ⟨7, 0, 0, 0⟩, ans0⟩
end Go.X
set_option linter.unusedVariables false
set_option linter.unusedSimpArgs false
set_option maxHeartbeats 20000000
set_option maxRecDepth 100000
namespace Go.X
open Go.Proofs.Tryd (prog)

theorem Mem.set_selfT {M : Mem} {id : Nat} {b : Blk} (h : M id = some b) : M.set id b = M := by
  funext i
  rw [Mem.set_app]
  split
  · rename_i e; rw [← e, h]
  · rfl
/-- Which keys may stand somewhere. -/
structure Ks where
  least : Int
  most : Int
  isLeast : Bool
  isMost : Bool
  deriving Inhabited
def Ks.row (k : Ks) : List Lf := [.int .i64 k.least, .int .i64 k.most, .bool k.isLeast, .bool k.isMost]
def ks0 : Ks := ⟨0, 0, false, false⟩
theorem row_ks (k : Ks) : k.row = [.int .i64 k.least, .int .i64 k.most, .bool k.isLeast, .bool k.isMost] := rfl
def Ks.has (k : Ks) (x : Int) : Bool := (!k.isLeast || decide (x ≥ k.least)) && (!k.isMost || decide (x < k.most))
theorem has_spec (k : Ks) (x : Int) (M : Mem) : XCalls Go.Proofs.Tryd.prog 53 [.agg k.row, .l (.int .i64 x)] M fun r M' => r = .l (.bool (k.has x)) ∧ M' = M := by
  refine xcalls_intro (rs := [.tmp 4]) Go.Proofs.Tryd.func53 rfl (by kernel_rfl) rfl rfl (by kernel_rfl) (by simp) ?_
  simp -implicitDefEqProofs (maxSteps := 1000000) (disch := omega) only [↓xsP, ↓vc_seq, xsQ, xsT, xsR, xsD, ↓reduceIte, reduceCtorEq, eq_self, ne_eq, imp_self, forall_const, Nat.reduceEqDiff, Nat.reduceAdd, Nat.reduceSub, Nat.reduceMul, Nat.reduceLT, Nat.reduceLeDiff, Nat.reduceBEq, Nat.reduceDiv, Nat.reduceMod, Int.reduceToNat, Int.reduceNeg, Int.reduceAdd, Int.reduceSub, Int.reduceMul, Int.reduceEq, Int.reduceNe, Int.reduceLT, Int.reduceLE, Int.reduceGT, Int.reduceGE, row_ks]
  refine newI_intro fun id hid => ?_
  obtain ⟨a, b, c, d⟩ := k
  simp only [Ks.has]
  have hle : M.le (M.set id (.cells 70 [[.int .i64 a, .int .i64 b, .bool c, .bool d]] 0)) := le_new (Mem.le_refl _) hid
  cases c <;> cases d <;> simp -implicitDefEqProofs (maxSteps := 1000000) (disch := omega) only [↓xsP, ↓vc_seq, xsQ, xsT, xsR, xsD, ↓reduceIte, reduceCtorEq, eq_self, ne_eq, imp_self, forall_const, Nat.reduceEqDiff, Nat.reduceAdd, Nat.reduceSub, Nat.reduceMul, Nat.reduceLT, Nat.reduceLeDiff, Nat.reduceBEq, Nat.reduceDiv, Nat.reduceMod, Int.reduceToNat, Int.reduceNeg, Int.reduceAdd, Int.reduceSub, Int.reduceMul, Int.reduceEq, Int.reduceNe, Int.reduceLT, Int.reduceLE, Int.reduceGT, Int.reduceGE]
  · exact fin_ok hle ⟨rfl, rfl⟩
  · exact fin_ok hle ⟨rfl, rfl⟩
  · refine gI_prop (fun h => ?_) (fun h => ?_) <;> simp -implicitDefEqProofs (maxSteps := 1000000) (disch := omega) only [↓xsP, ↓vc_seq, xsQ, xsT, xsR, xsD, ↓reduceIte, reduceCtorEq, eq_self, ne_eq, imp_self, forall_const, Nat.reduceEqDiff, Nat.reduceAdd, Nat.reduceSub, Nat.reduceMul, Nat.reduceLT, Nat.reduceLeDiff, Nat.reduceBEq, Nat.reduceDiv, Nat.reduceMod, Int.reduceToNat, Int.reduceNeg, Int.reduceAdd, Int.reduceSub, Int.reduceMul, Int.reduceEq, Int.reduceNe, Int.reduceLT, Int.reduceLE, Int.reduceGT, Int.reduceGE, h]
    · exact fin_ok hle ⟨by simp [h], rfl⟩
    · exact fin_ok hle ⟨by simp [h], rfl⟩
  · refine gI_prop (fun h => ?_) (fun h => ?_) <;> simp -implicitDefEqProofs (maxSteps := 1000000) (disch := omega) only [↓xsP, ↓vc_seq, xsQ, xsT, xsR, xsD, ↓reduceIte, reduceCtorEq, eq_self, ne_eq, imp_self, forall_const, Nat.reduceEqDiff, Nat.reduceAdd, Nat.reduceSub, Nat.reduceMul, Nat.reduceLT, Nat.reduceLeDiff, Nat.reduceBEq, Nat.reduceDiv, Nat.reduceMod, Int.reduceToNat, Int.reduceNeg, Int.reduceAdd, Int.reduceSub, Int.reduceMul, Int.reduceEq, Int.reduceNe, Int.reduceLT, Int.reduceLE, Int.reduceGT, Int.reduceGE, h]
    · exact fin_ok hle ⟨by simp [h], rfl⟩
    · exact fin_ok hle ⟨by simp [h], rfl⟩
theorem hasClo_spec (p : Pr) (id : Nat) (k : Ks) (M : Mem) {keep : Nat} (hM : M id = some (.cells 70 [k.row] keep)) :
    XCalls Go.Proofs.Tryd.prog 52 [.agg p.row, .l (.ptr id 0 0)] M fun r M' => r = .l (.bool (!k.has p.key)) ∧ M' = M := by
  refine xcalls_intro (rs := [.tmp 3]) Go.Proofs.Tryd.func52 rfl (by kernel_rfl) rfl rfl (by kernel_rfl) (by simp) ?_
  rw [row_ks] at hM
  simp -implicitDefEqProofs (maxSteps := 1000000) (disch := omega) only [↓xsP, ↓vc_seq, xsQ, xsT, xsR, xsD, ↓reduceIte, reduceCtorEq, eq_self, ne_eq, imp_self, forall_const, Nat.reduceEqDiff, Nat.reduceAdd, Nat.reduceSub, Nat.reduceMul, Nat.reduceLT, Nat.reduceLeDiff, Nat.reduceBEq, Nat.reduceDiv, Nat.reduceMod, Int.reduceToNat, Int.reduceNeg, Int.reduceAdd, Int.reduceSub, Int.reduceMul, Int.reduceEq, Int.reduceNe, Int.reduceLT, Int.reduceLE, Int.reduceGT, Int.reduceGE]
  refine newI_intro fun id2 hid2 => ?_
  have hlt : id < id2 := lt_of_bnd hid2 hM
  simp -implicitDefEqProofs (maxSteps := 1000000) (disch := omega) only [↓xsP, ↓vc_seq, xsQ, xsT, xsR, xsD, ↓reduceIte, reduceCtorEq, eq_self, ne_eq, imp_self, forall_const, Nat.reduceEqDiff, Nat.reduceAdd, Nat.reduceSub, Nat.reduceMul, Nat.reduceLT, Nat.reduceLeDiff, Nat.reduceBEq, Nat.reduceDiv, Nat.reduceMod, Int.reduceToNat, Int.reduceNeg, Int.reduceAdd, Int.reduceSub, Int.reduceMul, Int.reduceEq, Int.reduceNe, Int.reduceLT, Int.reduceLE, Int.reduceGT, Int.reduceGE, hM]
  refine call_of (has_spec k p.key _) ?_
  simp -implicitDefEqProofs (maxSteps := 1000000) (disch := omega) only [↓xsP, ↓vc_seq, xsQ, xsT, xsR, xsD, ↓reduceIte, reduceCtorEq, eq_self, ne_eq, imp_self, forall_const, Nat.reduceEqDiff, Nat.reduceAdd, Nat.reduceSub, Nat.reduceMul, Nat.reduceLT, Nat.reduceLeDiff, Nat.reduceBEq, Nat.reduceDiv, Nat.reduceMod, Int.reduceToNat, Int.reduceNeg, Int.reduceAdd, Int.reduceSub, Int.reduceMul, Int.reduceEq, Int.reduceNe, Int.reduceLT, Int.reduceLE, Int.reduceGT, Int.reduceGE]
  exact fin_ok (le_new (Mem.le_refl _) hid2) ⟨rfl, rfl⟩
theorem contains_spec (l : List Pr) (hl : l.length ≤ 140737488355328) (M : Mem) (f : FuncId) (caps : List Lf) (q : Pr → Bool) (hq : ∀ p, XCalls Go.Proofs.Tryd.prog f ([.agg p.row] ++ caps.map .l) M fun r M' => r = .l (.bool (q p)) ∧ M' = M) :
    XCalls Go.Proofs.Tryd.prog 51 [.l (.sl (l.map Pr.row)), .l (.clo f caps)] M fun r M' => r = .l (.bool (l.any q)) ∧ M' = M := by
  refine xcalls_intro (rs := [.tmp 4]) Go.Proofs.Tryd.func51 rfl (by kernel_rfl) rfl rfl (by kernel_rfl) (by simp) ?_
  simp -implicitDefEqProofs (maxSteps := 1000000) (disch := omega) only [↓xsP, ↓vc_seq, xsQ, xsT, xsR, xsD, ↓reduceIte, reduceCtorEq, eq_self, ne_eq, imp_self, forall_const, Nat.reduceEqDiff, Nat.reduceAdd, Nat.reduceSub, Nat.reduceMul, Nat.reduceLT, Nat.reduceLeDiff, Nat.reduceBEq, Nat.reduceDiv, Nat.reduceMod, Int.reduceToNat, Int.reduceNeg, Int.reduceAdd, Int.reduceSub, Int.reduceMul, Int.reduceEq, Int.reduceNe, Int.reduceLT, Int.reduceLE, Int.reduceGT, Int.reduceGE]
  refine call_of (index_spec l hl _ _ (.inl rfl) f caps q hq) ?_
  simp -implicitDefEqProofs (maxSteps := 1000000) (disch := omega) only [↓xsP, ↓vc_seq, xsQ, xsT, xsR, xsD, ↓reduceIte, reduceCtorEq, eq_self, ne_eq, imp_self, forall_const, Nat.reduceEqDiff, Nat.reduceAdd, Nat.reduceSub, Nat.reduceMul, Nat.reduceLT, Nat.reduceLeDiff, Nat.reduceBEq, Nat.reduceDiv, Nat.reduceMod, Int.reduceToNat, Int.reduceNeg, Int.reduceAdd, Int.reduceSub, Int.reduceMul, Int.reduceEq, Int.reduceNe, Int.reduceLT, Int.reduceLE, Int.reduceGT, Int.reduceGE]
  refine fin_ok (Mem.le_refl _) ⟨?_, rfl⟩
  rcases pidx_cases q l 0 with ⟨h1, h2⟩ | ⟨k, h1, h2, h3, h4⟩
  · rw [h1, show l.any q = false from List.any_eq_false.2 fun p hp => by simp [h2 p hp]]
    rfl
  · rw [h2, show l.any q = true from List.any_eq_true.2 ⟨_, getD_mem' l default h1, h3⟩]
    rw [decide_eq_true (by omega)]

/-! ### what the checker tells -/
def LeafOk (x : Nd) (k : Ks) : Prop := x.key = 0 ∧ x.left = 0 ∧ x.right = 0 ∧ Rises x.pairs ∧ -1000000 ≤ x.stat ∧ x.stat ≤ 1000000 ∧ ∀ p ∈ x.pairs, k.has p.key = true
def ForkOk (x : Nd) (k : Ks) : Prop := x.pairs = [] ∧ x.stat = 0 ∧ k.has x.key = true ∧ ¬ (k.isLeast = true ∧ x.key = k.least)
def Ks.lo (k : Ks) (x : Int) : Ks := { k with most := x, isMost := true }
def Ks.hi (k : Ks) (x : Int) : Ks := { k with least := x, isLeast := true }
abbrev CkS := List Bool × Int
noncomputable def mayS (ns : List Nd) : Nat → CkS → Int → Ks → Bool × CkS
  | 0, s, _, _ => (false, s)
  | f + 1, s, a, k =>
    if a < 0 ∨ (ns.length : Int) ≤ a ∨ s.1.getD a.toNat false = true then (false, s)
    else
      let s' : CkS := (s.1.set a.toNat true, s.2 + 1)
      let x := ns.getD a.toNat default
      if x.route = false then (bof (LeafOk x k), s')
      else if bof (ForkOk x k) = false then (false, s')
      else
        let r := mayS ns f s' x.left (k.lo x.key)
        if r.1 = true then mayS ns f r.2 x.right (k.hi x.key) else (false, r.2)
/-- How many places have not been met. -/
def unmet (m : List Bool) : Nat := m.count false
theorem unmet_set {m : List Bool} {i : Nat} (hi : i < m.length) (h : m.getD i false = false) : unmet (m.set i true) + 1 = unmet m := by
  induction m generalizing i with
  | nil => simp at hi
  | cons b r ih =>
    cases i with
    | zero =>
      simp only [List.getD_cons_zero] at h
      simp [unmet, h]
    | succ i =>
      have := ih (i := i) (by simpa using hi) (by simpa using h)
      simp only [unmet, List.set_cons_succ, List.count_cons] at this ⊢
      omega
theorem mayS_len (ns : List Nd) : ∀ (f : Nat) (s : CkS) (a : Int) (k : Ks), (mayS ns f s a k).2.1.length = s.1.length ∧ unmet (mayS ns f s a k).2.1 ≤ unmet s.1 ∧ (s.1.length = ns.length → (mayS ns f s a k).2.2 + unmet (mayS ns f s a k).2.1 = s.2 + unmet s.1)
  | 0, s, a, k => ⟨rfl, Nat.le_refl _, fun _ => rfl⟩
  | f + 1, s, a, k => by
    rw [mayS]
    split
    · exact ⟨rfl, Nat.le_refl _, fun _ => rfl⟩
    · rename_i hg
      simp only [not_or, Bool.not_eq_true] at hg
      obtain ⟨g1, g2, g3⟩ := hg
      have key : (s.1.set a.toNat true).length = s.1.length ∧ unmet (s.1.set a.toNat true) ≤ unmet s.1 ∧ (s.1.length = ns.length → s.2 + 1 + unmet (s.1.set a.toNat true) = s.2 + unmet s.1) := by
        refine ⟨List.length_set, ?_, fun hl => ?_⟩
        · by_cases hi : a.toNat < s.1.length
          · have := unmet_set hi g3
            omega
          · rw [List.set_eq_of_length_le (by omega)]
            exact Nat.le_refl _
        · have := unmet_set (m := s.1) (i := a.toNat) (by omega) g3
          omega
      simp only
      split
      · exact key
      · split
        · exact key
        · have h1 := mayS_len ns f (s.1.set a.toNat true, s.2 + 1) (ns.getD a.toNat default).left (k.lo (ns.getD a.toNat default).key)
          have key1 : (mayS ns f (s.1.set a.toNat true, s.2 + 1) (ns.getD a.toNat default).left (k.lo (ns.getD a.toNat default).key)).2.1.length = s.1.length := h1.1.trans key.1
          split
          · have h2 := mayS_len ns f (mayS ns f (s.1.set a.toNat true, s.2 + 1) (ns.getD a.toNat default).left (k.lo (ns.getD a.toNat default).key)).2 (ns.getD a.toNat default).right (k.hi (ns.getD a.toNat default).key)
            refine ⟨h2.1.trans key1, Nat.le_trans h2.2.1 (Nat.le_trans h1.2.1 key.2.1), fun hl => ?_⟩
            have e1 := h2.2.2 (key1.trans hl)
            have e2 := h1.2.2 (by rw [← hl]; exact key.1)
            have e3 := key.2.2 hl
            simp only at e2
            omega
          · refine ⟨key1, Nat.le_trans h1.2.1 key.2.1, fun hl => ?_⟩
            have e2 := h1.2.2 (by rw [← hl]; exact key.1)
            have e3 := key.2.2 hl
            simp only at e2
            simp only at e2 e3 ⊢
            omega
def ckB (root : Int) (ns : List Nd) (idm : Nat) (n : Int) : Blk := .cells 67 [[.int .i64 root, .sl (ns.map Nd.row), .ms idm 0 ns.length, .int .i64 n]] 0
def mtB (m : List Bool) : Blk := .cells 4 (m.map brow) 0
theorem set2_le {M R : Mem} {i j : Nat} (h : ∀ k bk, M k = some bk → k ≠ i → k ≠ j → R k = some bk) (X Y : Blk) : ((M.set i X).set j Y).le ((R.set i X).set j Y) := fun k bk hk => by
  rw [Mem.set_app] at hk ⊢
  split at hk
  · rename_i e; rw [if_pos e]; exact hk
  · rename_i e
    rw [if_neg e]
    rw [Mem.set_app] at hk ⊢
    split at hk
    · rename_i e2; rw [if_pos e2]; exact hk
    · rename_i e2
      rw [if_neg e2]
      exact h _ _ hk (Ne.symm e2) (Ne.symm e)
theorem chk_spec (root : Int) (ns : List Nd) (hns : ns.length ≤ 2000) (hp : ∀ x ∈ ns, x.pairs.length ≤ 140737488355328) (idc idm : Nat) : ∀ (f : Nat) (s : CkS) (a : Int) (k : Ks) (M : Mem), s.1.length = ns.length → unmet s.1 < f → 0 ≤ s.2 → s.2 + unmet s.1 ≤ 2000 →
    M idc = some (ckB root ns idm s.2) → M idm = some (mtB s.1) →
    XCalls Go.Proofs.Tryd.prog 35 [.l (.ptr idc 0 0), .l (.int .i64 a), .agg k.row] M fun r M' =>
      r = .l (.bool (mayS ns f s a k).1) ∧ M' = (M.set idc (ckB root ns idm (mayS ns f s a k).2.2)).set idm (mtB (mayS ns f s a k).2.1)
  | 0, s, a, k, M, _, h, _, _, _, _ => absurd h (by omega)
  | f + 1, s, a, k, M, hl, hu, h0, h1, hc, hm => by
    refine xcalls_intro (rs := [.tmp 6]) Go.Proofs.Tryd.func35 rfl (by kernel_rfl) rfl rfl (by kernel_rfl) (by simp) ?_
    rw [ckB] at hc
    rw [mtB] at hm
    have hcm : idc ≠ idm := fun e => by rw [e, hm] at hc; cases hc
    simp -implicitDefEqProofs (maxSteps := 1000000) (disch := omega) only [↓xsP, ↓vc_seq, xsQ, xsT, xsR, xsD, ↓reduceIte, reduceCtorEq, eq_self, ne_eq, imp_self, forall_const, Nat.reduceEqDiff, Nat.reduceAdd, Nat.reduceSub, Nat.reduceMul, Nat.reduceLT, Nat.reduceLeDiff, Nat.reduceBEq, Nat.reduceDiv, Nat.reduceMod, Int.reduceToNat, Int.reduceNeg, Int.reduceAdd, Int.reduceSub, Int.reduceMul, Int.reduceEq, Int.reduceNe, Int.reduceLT, Int.reduceLE, Int.reduceGT, Int.reduceGE, row_ks]
    refine newI_intro fun id5 hid5 => ?_
    have k5c := lt_of_bnd hid5 hc
    have k5m := lt_of_bnd hid5 hm
    simp -implicitDefEqProofs (maxSteps := 1000000) (disch := omega) only [↓xsP, ↓vc_seq, xsQ, xsT, xsR, xsD, ↓reduceIte, reduceCtorEq, eq_self, ne_eq, imp_self, forall_const, Nat.reduceEqDiff, Nat.reduceAdd, Nat.reduceSub, Nat.reduceMul, Nat.reduceLT, Nat.reduceLeDiff, Nat.reduceBEq, Nat.reduceDiv, Nat.reduceMod, Int.reduceToNat, Int.reduceNeg, Int.reduceAdd, Int.reduceSub, Int.reduceMul, Int.reduceEq, Int.reduceNe, Int.reduceLT, Int.reduceLE, Int.reduceGT, Int.reduceGE, hc, hm]
    have hquit : (a < 0 ∨ (ns.length : Int) ≤ a ∨ s.1.getD a.toNat false = true) → ∀ X : Blk, @finI prog (.l (.bool false)) (M.set id5 X) ⟨fun r M' =>
      r = .l (.bool (mayS ns (f + 1) s a k).1) ∧ M' = (M.set idc (ckB root ns idm (mayS ns (f + 1) s a k).2.2)).set idm (mtB (mayS ns (f + 1) s a k).2.1)⟩ := fun hq X => by
      rw [mayS, if_pos hq]
      refine fin_ok (le_new ?_ ?_) ⟨rfl, rfl⟩
      · rw [Mem.set_selfT (show M idc = some (ckB root ns idm s.2) from hc), Mem.set_selfT (show M idm = some (mtB s.1) from hm)]
        exact Mem.le_refl _
      · intro j hj
        rw [Mem.set_selfT (show M idc = some (ckB root ns idm s.2) from hc), Mem.set_selfT (show M idm = some (mtB s.1) from hm)]
        exact hid5 j hj
    by_cases g1 : a < 0
    · have q1 : decide (a < 0) = true := decide_eq_true g1
      simp -implicitDefEqProofs (maxSteps := 1000000) (disch := omega) only [↓xsP, ↓vc_seq, xsQ, xsT, xsR, xsD, ↓reduceIte, reduceCtorEq, eq_self, ne_eq, imp_self, forall_const, Nat.reduceEqDiff, Nat.reduceAdd, Nat.reduceSub, Nat.reduceMul, Nat.reduceLT, Nat.reduceLeDiff, Nat.reduceBEq, Nat.reduceDiv, Nat.reduceMod, Int.reduceToNat, Int.reduceNeg, Int.reduceAdd, Int.reduceSub, Int.reduceMul, Int.reduceEq, Int.reduceNe, Int.reduceLT, Int.reduceLE, Int.reduceGT, Int.reduceGE, q1]
      exact hquit (.inl g1) _
    have q1 : decide (a < 0) = false := decide_eq_false g1
    simp -implicitDefEqProofs (maxSteps := 1000000) (disch := omega) only [↓xsP, ↓vc_seq, xsQ, xsT, xsR, xsD, ↓reduceIte, reduceCtorEq, eq_self, ne_eq, imp_self, forall_const, Nat.reduceEqDiff, Nat.reduceAdd, Nat.reduceSub, Nat.reduceMul, Nat.reduceLT, Nat.reduceLeDiff, Nat.reduceBEq, Nat.reduceDiv, Nat.reduceMod, Int.reduceToNat, Int.reduceNeg, Int.reduceAdd, Int.reduceSub, Int.reduceMul, Int.reduceEq, Int.reduceNe, Int.reduceLT, Int.reduceLE, Int.reduceGT, Int.reduceGE, q1, hc, hm]
    by_cases g2 : (ns.length : Int) ≤ a
    · have q2 : decide (a ≥ (ns.length : Int)) = true := decide_eq_true g2
      simp -implicitDefEqProofs (maxSteps := 1000000) (disch := omega) only [↓xsP, ↓vc_seq, xsQ, xsT, xsR, xsD, ↓reduceIte, reduceCtorEq, eq_self, ne_eq, imp_self, forall_const, Nat.reduceEqDiff, Nat.reduceAdd, Nat.reduceSub, Nat.reduceMul, Nat.reduceLT, Nat.reduceLeDiff, Nat.reduceBEq, Nat.reduceDiv, Nat.reduceMod, Int.reduceToNat, Int.reduceNeg, Int.reduceAdd, Int.reduceSub, Int.reduceMul, Int.reduceEq, Int.reduceNe, Int.reduceLT, Int.reduceLE, Int.reduceGT, Int.reduceGE, q1, q2]
      exact hquit (.inr (.inl g2)) _
    have q2 : decide (a ≥ (ns.length : Int)) = false := decide_eq_false g2
    obtain ⟨i, rfl⟩ := Int.eq_ofNat_of_zero_le (show 0 ≤ a by omega)
    have hi : i < ns.length := by omega
    have him : i < s.1.length := by omega
    simp -implicitDefEqProofs (maxSteps := 1000000) (disch := omega) only [↓xsP, ↓vc_seq, xsQ, xsT, xsR, xsD, ↓reduceIte, reduceCtorEq, eq_self, ne_eq, imp_self, forall_const, Nat.reduceEqDiff, Nat.reduceAdd, Nat.reduceSub, Nat.reduceMul, Nat.reduceLT, Nat.reduceLeDiff, Nat.reduceBEq, Nat.reduceDiv, Nat.reduceMod, Int.reduceToNat, Int.reduceNeg, Int.reduceAdd, Int.reduceSub, Int.reduceMul, Int.reduceEq, Int.reduceNe, Int.reduceLT, Int.reduceLE, Int.reduceGT, Int.reduceGE, q1, q2, hc, hm]
    cases hb : s.1.getD i default with
    | true =>
      simp -implicitDefEqProofs (maxSteps := 1000000) (disch := omega) only [↓xsP, ↓vc_seq, xsQ, xsT, xsR, xsD, ↓reduceIte, reduceCtorEq, eq_self, ne_eq, imp_self, forall_const, Nat.reduceEqDiff, Nat.reduceAdd, Nat.reduceSub, Nat.reduceMul, Nat.reduceLT, Nat.reduceLeDiff, Nat.reduceBEq, Nat.reduceDiv, Nat.reduceMod, Int.reduceToNat, Int.reduceNeg, Int.reduceAdd, Int.reduceSub, Int.reduceMul, Int.reduceEq, Int.reduceNe, Int.reduceLT, Int.reduceLE, Int.reduceGT, Int.reduceGE]
      exact hquit (.inr (.inr (by rw [Int.toNat_natCast]; exact hb))) _
    | false =>
    have hgo : ¬ ((i : Int) < 0 ∨ (ns.length : Int) ≤ i ∨ s.1.getD (i : Int).toNat false = true) := by
      rw [Int.toNat_natCast]
      rintro (h | h | h)
      · omega
      · omega
      · rw [show s.1.getD i false = false from hb] at h
        cases h
    have hus := unmet_set him hb
    have hxm := getD_mem' ns default hi
    have hpx := hp _ hxm
    obtain ⟨x, hx⟩ : ∃ x, ns.getD i default = x := ⟨_, rfl⟩
    obtain ⟨m1, hm1⟩ : ∃ m1, s.1.set i true = m1 := ⟨_, rfl⟩
    have hmay : mayS ns (f + 1) s (i : Int) k = (if x.route = false then (bof (LeafOk x k), (m1, s.2 + 1)) else if bof (ForkOk x k) = false then (false, (m1, s.2 + 1)) else
        if (mayS ns f (m1, s.2 + 1) x.left (k.lo x.key)).1 = true then mayS ns f (mayS ns f (m1, s.2 + 1) x.left (k.lo x.key)).2 x.right (k.hi x.key) else (false, (mayS ns f (m1, s.2 + 1) x.left (k.lo x.key)).2)) := by
      rw [mayS, if_neg hgo]
      simp only [Int.toNat_natCast, hx, hm1]
    clear hgo hquit
    rw [hx] at hpx
    have hm1r : (s.1.map brow).set i [.bool true] = m1.map brow := by rw [← hm1, List.map_set]; rfl
    have hm1l : m1.length = ns.length := by rw [← hm1, List.length_set]; exact hl
    rw [hm1] at hus
    simp -implicitDefEqProofs (maxSteps := 1000000) (disch := omega) only [↓xsP, ↓vc_seq, xsQ, xsT, xsR, xsD, ↓reduceIte, reduceCtorEq, eq_self, ne_eq, imp_self, forall_const, Nat.reduceEqDiff, Nat.reduceAdd, Nat.reduceSub, Nat.reduceMul, Nat.reduceLT, Nat.reduceLeDiff, Nat.reduceBEq, Nat.reduceDiv, Nat.reduceMod, Int.reduceToNat, Int.reduceNeg, Int.reduceAdd, Int.reduceSub, Int.reduceMul, Int.reduceEq, Int.reduceNe, Int.reduceLT, Int.reduceLE, Int.reduceGT, Int.reduceGE, hc, hm, q1, hx, hm1r]
    refine newI_intro fun id7 hid7 => ?_
    have k7c := lt_of_bnd hid7 (Mem.set_eq _ idc _)
    have k7m : idm < id7 := lt_of_bnd hid7 (by rw [Mem.set_ne _ _ _ _ hcm, Mem.set_eq])
    have k75 : id5 < id7 := lt_of_bnd hid7 (by rw [Mem.set_ne _ _ _ _ (by omega), Mem.set_ne _ _ _ _ (by omega), Mem.set_eq])
    have key : ∀ (X Y Z : Blk) (N : Mem), ((((M.set id5 X).set idm Y).set idc Z).set id7 (.cells 46 [x.row] 0)) = N → N id5 = some X ∧ N idm = some Y ∧ N idc = some Z ∧ N id7 = some (.cells 46 [x.row] 0) ∧ ∀ j bk, M j = some bk → j ≠ idc → j ≠ idm → N j = some bk := by
      rintro X Y Z N rfl
      refine ⟨?_, ?_, ?_, Mem.set_eq _ _ _, fun j bk hj h1 h2 => ?_⟩
      · rw [Mem.set_ne _ _ _ _ (by omega), Mem.set_ne _ _ _ _ (by omega), Mem.set_ne _ _ _ _ (by omega), Mem.set_eq]
      · rw [Mem.set_ne _ _ _ _ (by omega), Mem.set_ne _ _ _ _ hcm, Mem.set_eq]
      · rw [Mem.set_ne _ _ _ _ (by omega), Mem.set_eq]
      · have := lt_of_bnd hid5 hj
        rw [Mem.set_ne _ _ _ _ (by omega), Mem.set_ne _ _ _ _ (Ne.symm h1), Mem.set_ne _ _ _ _ (Ne.symm h2), Mem.set_ne _ _ _ _ (by omega)]
        exact hj
    rw [row_nd] at key
    simp -implicitDefEqProofs (maxSteps := 1000000) (disch := omega) only [↓xsP, ↓vc_seq, xsQ, xsT, xsR, xsD, ↓reduceIte, reduceCtorEq, eq_self, ne_eq, imp_self, forall_const, Nat.reduceEqDiff, Nat.reduceAdd, Nat.reduceSub, Nat.reduceMul, Nat.reduceLT, Nat.reduceLeDiff, Nat.reduceBEq, Nat.reduceDiv, Nat.reduceMod, Int.reduceToNat, Int.reduceNeg, Int.reduceAdd, Int.reduceSub, Int.reduceMul, Int.reduceEq, Int.reduceNe, Int.reduceLT, Int.reduceLE, Int.reduceGT, Int.reduceGE, hc, hm, q1, hx, hm1r]
    generalize hN : Mem.set (Mem.set (Mem.set (Mem.set M _ _) _ _) _ _) _ _ = N
    obtain ⟨hN5, hNm, hNc, hN7, hMN⟩ := key _ _ _ _ hN
    clear key hN
    have hres0 : ((M.set idc (ckB root ns idm (s.2 + 1))).set idm (mtB m1)).le N := by
      have := set2_le hMN (ckB root ns idm (s.2 + 1)) (mtB m1)
      rw [Mem.set_selfT (show N idc = some (ckB root ns idm (s.2 + 1)) from hNc), Mem.set_selfT (show N idm = some (mtB m1) from hNm)] at this
      exact this
    cases hroute : x.route with
    | false =>
      rw [hroute, if_pos rfl] at hmay
      have hend : ∀ b : Bool, b = bof (LeafOk x k) → @finI prog (.l (.bool b)) N ⟨fun r M' => r = .l (.bool (mayS ns (f + 1) s i k).1) ∧ M' = (M.set idc (ckB root ns idm (mayS ns (f + 1) s i k).2.2)).set idm (mtB (mayS ns (f + 1) s i k).2.1)⟩ := fun b hb => by
        rw [hmay, hb]
        exact fin_ok hres0 ⟨rfl, rfl⟩
      rw [hroute] at hN7
      simp -implicitDefEqProofs (maxSteps := 1000000) (disch := omega) only [↓xsP, ↓vc_seq, xsQ, xsT, xsR, xsD, ↓reduceIte, reduceCtorEq, eq_self, ne_eq, imp_self, forall_const, Nat.reduceEqDiff, Nat.reduceAdd, Nat.reduceSub, Nat.reduceMul, Nat.reduceLT, Nat.reduceLeDiff, Nat.reduceBEq, Nat.reduceDiv, Nat.reduceMod, Int.reduceToNat, Int.reduceNeg, Int.reduceAdd, Int.reduceSub, Int.reduceMul, Int.reduceEq, Int.reduceNe, Int.reduceLT, Int.reduceLE, Int.reduceGT, Int.reduceGE, hN7]
      by_cases l1 : x.key = 0
      rotate_left
      · have w1 : decide (x.key = 0) = false := decide_eq_false l1
        simp -implicitDefEqProofs (maxSteps := 1000000) (disch := omega) only [↓xsP, ↓vc_seq, xsQ, xsT, xsR, xsD, ↓reduceIte, reduceCtorEq, eq_self, ne_eq, imp_self, forall_const, Nat.reduceEqDiff, Nat.reduceAdd, Nat.reduceSub, Nat.reduceMul, Nat.reduceLT, Nat.reduceLeDiff, Nat.reduceBEq, Nat.reduceDiv, Nat.reduceMod, Int.reduceToNat, Int.reduceNeg, Int.reduceAdd, Int.reduceSub, Int.reduceMul, Int.reduceEq, Int.reduceNe, Int.reduceLT, Int.reduceLE, Int.reduceGT, Int.reduceGE, hN7, w1]
        exact hend _ (bof_false fun h => l1 h.1).symm
      have w1 : decide (x.key = 0) = true := decide_eq_true l1
      by_cases l2 : x.left = 0
      rotate_left
      · have w2 : decide (x.left = 0) = false := decide_eq_false l2
        simp -implicitDefEqProofs (maxSteps := 1000000) (disch := omega) only [↓xsP, ↓vc_seq, xsQ, xsT, xsR, xsD, ↓reduceIte, reduceCtorEq, eq_self, ne_eq, imp_self, forall_const, Nat.reduceEqDiff, Nat.reduceAdd, Nat.reduceSub, Nat.reduceMul, Nat.reduceLT, Nat.reduceLeDiff, Nat.reduceBEq, Nat.reduceDiv, Nat.reduceMod, Int.reduceToNat, Int.reduceNeg, Int.reduceAdd, Int.reduceSub, Int.reduceMul, Int.reduceEq, Int.reduceNe, Int.reduceLT, Int.reduceLE, Int.reduceGT, Int.reduceGE, hN7, w1, w2]
        exact hend _ (bof_false fun h => l2 h.2.1).symm
      have w2 : decide (x.left = 0) = true := decide_eq_true l2
      by_cases l3 : x.right = 0
      rotate_left
      · have w3 : decide (x.right = 0) = false := decide_eq_false l3
        simp -implicitDefEqProofs (maxSteps := 1000000) (disch := omega) only [↓xsP, ↓vc_seq, xsQ, xsT, xsR, xsD, ↓reduceIte, reduceCtorEq, eq_self, ne_eq, imp_self, forall_const, Nat.reduceEqDiff, Nat.reduceAdd, Nat.reduceSub, Nat.reduceMul, Nat.reduceLT, Nat.reduceLeDiff, Nat.reduceBEq, Nat.reduceDiv, Nat.reduceMod, Int.reduceToNat, Int.reduceNeg, Int.reduceAdd, Int.reduceSub, Int.reduceMul, Int.reduceEq, Int.reduceNe, Int.reduceLT, Int.reduceLE, Int.reduceGT, Int.reduceGE, hN7, w1, w2, w3]
        exact hend _ (bof_false fun h => l3 h.2.2.1).symm
      have w3 : decide (x.right = 0) = true := decide_eq_true l3
      simp -implicitDefEqProofs (maxSteps := 1000000) (disch := omega) only [↓xsP, ↓vc_seq, xsQ, xsT, xsR, xsD, ↓reduceIte, reduceCtorEq, eq_self, ne_eq, imp_self, forall_const, Nat.reduceEqDiff, Nat.reduceAdd, Nat.reduceSub, Nat.reduceMul, Nat.reduceLT, Nat.reduceLeDiff, Nat.reduceBEq, Nat.reduceDiv, Nat.reduceMod, Int.reduceToNat, Int.reduceNeg, Int.reduceAdd, Int.reduceSub, Int.reduceMul, Int.reduceEq, Int.reduceNe, Int.reduceLT, Int.reduceLE, Int.reduceGT, Int.reduceGE, hN7, w1, w2, w3]
      refine call_of (may_spec x.pairs (by omega) _) ?_
      by_cases l4 : Rises x.pairs
      rotate_left
      · rw [bof_false l4]
        simp -implicitDefEqProofs (maxSteps := 1000000) (disch := omega) only [↓xsP, ↓vc_seq, xsQ, xsT, xsR, xsD, ↓reduceIte, reduceCtorEq, eq_self, ne_eq, imp_self, forall_const, Nat.reduceEqDiff, Nat.reduceAdd, Nat.reduceSub, Nat.reduceMul, Nat.reduceLT, Nat.reduceLeDiff, Nat.reduceBEq, Nat.reduceDiv, Nat.reduceMod, Int.reduceToNat, Int.reduceNeg, Int.reduceAdd, Int.reduceSub, Int.reduceMul, Int.reduceEq, Int.reduceNe, Int.reduceLT, Int.reduceLE, Int.reduceGT, Int.reduceGE, hN7]
        exact hend _ (bof_false fun h => l4 h.2.2.2.1).symm
      rw [bof_true l4]
      by_cases l5 : -1000000 ≤ x.stat
      rotate_left
      · have w5 : decide (x.stat ≥ -1000000) = false := decide_eq_false l5
        simp -implicitDefEqProofs (maxSteps := 1000000) (disch := omega) only [↓xsP, ↓vc_seq, xsQ, xsT, xsR, xsD, ↓reduceIte, reduceCtorEq, eq_self, ne_eq, imp_self, forall_const, Nat.reduceEqDiff, Nat.reduceAdd, Nat.reduceSub, Nat.reduceMul, Nat.reduceLT, Nat.reduceLeDiff, Nat.reduceBEq, Nat.reduceDiv, Nat.reduceMod, Int.reduceToNat, Int.reduceNeg, Int.reduceAdd, Int.reduceSub, Int.reduceMul, Int.reduceEq, Int.reduceNe, Int.reduceLT, Int.reduceLE, Int.reduceGT, Int.reduceGE, hN7, w5]
        exact hend _ (bof_false fun h => l5 h.2.2.2.2.1).symm
      have w5 : decide (x.stat ≥ -1000000) = true := decide_eq_true l5
      by_cases l6 : x.stat ≤ 1000000
      rotate_left
      · have w6 : decide (x.stat ≤ 1000000) = false := decide_eq_false l6
        simp -implicitDefEqProofs (maxSteps := 1000000) (disch := omega) only [↓xsP, ↓vc_seq, xsQ, xsT, xsR, xsD, ↓reduceIte, reduceCtorEq, eq_self, ne_eq, imp_self, forall_const, Nat.reduceEqDiff, Nat.reduceAdd, Nat.reduceSub, Nat.reduceMul, Nat.reduceLT, Nat.reduceLeDiff, Nat.reduceBEq, Nat.reduceDiv, Nat.reduceMod, Int.reduceToNat, Int.reduceNeg, Int.reduceAdd, Int.reduceSub, Int.reduceMul, Int.reduceEq, Int.reduceNe, Int.reduceLT, Int.reduceLE, Int.reduceGT, Int.reduceGE, hN7, w5, w6]
        exact hend _ (bof_false fun h => l6 h.2.2.2.2.2.1).symm
      have w6 : decide (x.stat ≤ 1000000) = true := decide_eq_true l6
      simp -implicitDefEqProofs (maxSteps := 1000000) (disch := omega) only [↓xsP, ↓vc_seq, xsQ, xsT, xsR, xsD, ↓reduceIte, reduceCtorEq, eq_self, ne_eq, imp_self, forall_const, Nat.reduceEqDiff, Nat.reduceAdd, Nat.reduceSub, Nat.reduceMul, Nat.reduceLT, Nat.reduceLeDiff, Nat.reduceBEq, Nat.reduceDiv, Nat.reduceMod, Int.reduceToNat, Int.reduceNeg, Int.reduceAdd, Int.reduceSub, Int.reduceMul, Int.reduceEq, Int.reduceNe, Int.reduceLT, Int.reduceLE, Int.reduceGT, Int.reduceGE, hN7, w5, w6]
      refine callI_of ((contains_spec x.pairs hpx N _ [.ptr id5 0 0] (fun p => !k.has p.key) (fun p => hasClo_spec p id5 k N hN5)).mono ?_)
      rintro _ _ ⟨rfl, rfl⟩
      simp -implicitDefEqProofs (maxSteps := 1000000) (disch := omega) only [↓xsP, ↓vc_seq, xsQ, xsT, xsR, xsD, ↓reduceIte, reduceCtorEq, eq_self, ne_eq, imp_self, forall_const, Nat.reduceEqDiff, Nat.reduceAdd, Nat.reduceSub, Nat.reduceMul, Nat.reduceLT, Nat.reduceLeDiff, Nat.reduceBEq, Nat.reduceDiv, Nat.reduceMod, Int.reduceToNat, Int.reduceNeg, Int.reduceAdd, Int.reduceSub, Int.reduceMul, Int.reduceEq, Int.reduceNe, Int.reduceLT, Int.reduceLE, Int.reduceGT, Int.reduceGE, hN7]
      refine hend _ ?_
      rw [Bool.eq_iff_iff, bof_iff]
      simp only [Bool.not_eq_true', List.any_eq_false, Bool.not_eq_false']
      constructor
      · intro h
        exact ⟨l1, l2, l3, l4, l5, l6, fun p hp => by simpa using h p hp⟩
      · intro h p hp
        simp [h.2.2.2.2.2.2 p hp]
    | true =>
      rw [hroute, if_neg (by decide)] at hmay
      rw [hroute] at hN7
      have hendF : ¬ ForkOk x k → @finI prog (.l (.bool false)) N ⟨fun r M' => r = .l (.bool (mayS ns (f + 1) s i k).1) ∧ M' = (M.set idc (ckB root ns idm (mayS ns (f + 1) s i k).2.2)).set idm (mtB (mayS ns (f + 1) s i k).2.1)⟩ := fun hb => by
        rw [hmay, if_pos (bof_false hb)]
        exact fin_ok hres0 ⟨rfl, rfl⟩
      simp -implicitDefEqProofs (maxSteps := 1000000) (disch := omega) only [↓xsP, ↓vc_seq, xsQ, xsT, xsR, xsD, ↓reduceIte, reduceCtorEq, eq_self, ne_eq, imp_self, forall_const, Nat.reduceEqDiff, Nat.reduceAdd, Nat.reduceSub, Nat.reduceMul, Nat.reduceLT, Nat.reduceLeDiff, Nat.reduceBEq, Nat.reduceDiv, Nat.reduceMod, Int.reduceToNat, Int.reduceNeg, Int.reduceAdd, Int.reduceSub, Int.reduceMul, Int.reduceEq, Int.reduceNe, Int.reduceLT, Int.reduceLE, Int.reduceGT, Int.reduceGE, hN7]
      by_cases l1 : x.pairs = []
      rotate_left
      · have w1 : decide ((x.pairs.length : Int) > 0) = true := decide_eq_true (by have := List.length_pos_iff.2 l1; omega)
        simp -implicitDefEqProofs (maxSteps := 1000000) (disch := omega) only [↓xsP, ↓vc_seq, xsQ, xsT, xsR, xsD, ↓reduceIte, reduceCtorEq, eq_self, ne_eq, imp_self, forall_const, Nat.reduceEqDiff, Nat.reduceAdd, Nat.reduceSub, Nat.reduceMul, Nat.reduceLT, Nat.reduceLeDiff, Nat.reduceBEq, Nat.reduceDiv, Nat.reduceMod, Int.reduceToNat, Int.reduceNeg, Int.reduceAdd, Int.reduceSub, Int.reduceMul, Int.reduceEq, Int.reduceNe, Int.reduceLT, Int.reduceLE, Int.reduceGT, Int.reduceGE, hN7, w1]
        exact hendF fun h => l1 h.1
      have w1 : decide ((x.pairs.length : Int) > 0) = false := decide_eq_false (by rw [l1]; decide)
      by_cases l2 : x.stat = 0
      rotate_left
      · have w2 : decide (x.stat = 0) = false := decide_eq_false l2
        have w2' : decide (x.stat ≠ 0) = true := decide_eq_true l2
        simp -implicitDefEqProofs (maxSteps := 1000000) (disch := omega) only [↓xsP, ↓vc_seq, xsQ, xsT, xsR, xsD, ↓reduceIte, reduceCtorEq, eq_self, ne_eq, imp_self, forall_const, Nat.reduceEqDiff, Nat.reduceAdd, Nat.reduceSub, Nat.reduceMul, Nat.reduceLT, Nat.reduceLeDiff, Nat.reduceBEq, Nat.reduceDiv, Nat.reduceMod, Int.reduceToNat, Int.reduceNeg, Int.reduceAdd, Int.reduceSub, Int.reduceMul, Int.reduceEq, Int.reduceNe, Int.reduceLT, Int.reduceLE, Int.reduceGT, Int.reduceGE, hN7, w1, w2, w2']
        exact hendF fun h => l2 h.2.1
      have w2 : decide (x.stat = 0) = true := decide_eq_true l2
      have w2' : decide (x.stat ≠ 0) = false := decide_eq_false (fun h => h l2)
      simp -implicitDefEqProofs (maxSteps := 1000000) (disch := omega) only [↓xsP, ↓vc_seq, xsQ, xsT, xsR, xsD, ↓reduceIte, reduceCtorEq, eq_self, ne_eq, imp_self, forall_const, Nat.reduceEqDiff, Nat.reduceAdd, Nat.reduceSub, Nat.reduceMul, Nat.reduceLT, Nat.reduceLeDiff, Nat.reduceBEq, Nat.reduceDiv, Nat.reduceMod, Int.reduceToNat, Int.reduceNeg, Int.reduceAdd, Int.reduceSub, Int.reduceMul, Int.reduceEq, Int.reduceNe, Int.reduceLT, Int.reduceLE, Int.reduceGT, Int.reduceGE, hN7, w1, w2, w2', hN5]
      refine call_of (has_spec k x.key _) ?_
      cases l3 : k.has x.key with
      | false =>
        simp -implicitDefEqProofs (maxSteps := 1000000) (disch := omega) only [↓xsP, ↓vc_seq, xsQ, xsT, xsR, xsD, ↓reduceIte, reduceCtorEq, eq_self, ne_eq, imp_self, forall_const, Nat.reduceEqDiff, Nat.reduceAdd, Nat.reduceSub, Nat.reduceMul, Nat.reduceLT, Nat.reduceLeDiff, Nat.reduceBEq, Nat.reduceDiv, Nat.reduceMod, Int.reduceToNat, Int.reduceNeg, Int.reduceAdd, Int.reduceSub, Int.reduceMul, Int.reduceEq, Int.reduceNe, Int.reduceLT, Int.reduceLE, Int.reduceGT, Int.reduceGE, hN7, hN5]
        exact hendF fun h => by have := h.2.2.1; rw [l3] at this; cases this
      | true =>
      by_cases l4 : k.isLeast = true ∧ x.key = k.least
      · have w4 : decide (x.key = k.least) = true := decide_eq_true l4.2
        have w5 := l4.1
        simp -implicitDefEqProofs (maxSteps := 1000000) (disch := omega) only [↓xsP, ↓vc_seq, xsQ, xsT, xsR, xsD, ↓reduceIte, reduceCtorEq, eq_self, ne_eq, imp_self, forall_const, Nat.reduceEqDiff, Nat.reduceAdd, Nat.reduceSub, Nat.reduceMul, Nat.reduceLT, Nat.reduceLeDiff, Nat.reduceBEq, Nat.reduceDiv, Nat.reduceMod, Int.reduceToNat, Int.reduceNeg, Int.reduceAdd, Int.reduceSub, Int.reduceMul, Int.reduceEq, Int.reduceNe, Int.reduceLT, Int.reduceLE, Int.reduceGT, Int.reduceGE, hN7, hN5, w4, w5]
        exact hendF fun h => h.2.2.2 l4
      have hfk : ForkOk x k := ⟨l1, l2, l3, l4⟩
      rw [if_neg (by rw [bof_true hfk]; decide)] at hmay
      simp -implicitDefEqProofs (maxSteps := 1000000) (disch := omega) only [↓xsP, ↓vc_seq, xsQ, xsT, xsR, xsD, ↓reduceIte, reduceCtorEq, eq_self, ne_eq, imp_self, forall_const, Nat.reduceEqDiff, Nat.reduceAdd, Nat.reduceSub, Nat.reduceMul, Nat.reduceLT, Nat.reduceLeDiff, Nat.reduceBEq, Nat.reduceDiv, Nat.reduceMod, Int.reduceToNat, Int.reduceNeg, Int.reduceAdd, Int.reduceSub, Int.reduceMul, Int.reduceEq, Int.reduceNe, Int.reduceLT, Int.reduceLE, Int.reduceGT, Int.reduceGE, hN7, hN5]
      have hsplit : k.isLeast = false ∨ (k.isLeast = true ∧ decide (x.key = k.least) = false) := by
        cases hk : k.isLeast with
        | false => exact .inl rfl
        | true => exact .inr ⟨rfl, decide_eq_false fun h => l4 ⟨hk, h⟩⟩
      rcases hsplit with w5 | ⟨w5, w4⟩
      · simp -implicitDefEqProofs (maxSteps := 1000000) (disch := omega) only [↓xsP, ↓vc_seq, xsQ, xsT, xsR, xsD, ↓reduceIte, reduceCtorEq, eq_self, ne_eq, imp_self, forall_const, Nat.reduceEqDiff, Nat.reduceAdd, Nat.reduceSub, Nat.reduceMul, Nat.reduceLT, Nat.reduceLeDiff, Nat.reduceBEq, Nat.reduceDiv, Nat.reduceMod, Int.reduceToNat, Int.reduceNeg, Int.reduceAdd, Int.reduceSub, Int.reduceMul, Int.reduceEq, Int.reduceNe, Int.reduceLT, Int.reduceLE, Int.reduceGT, Int.reduceGE, hN7, hN5, w5]
        refine xwrite (fun n0 => [ (4, n0 + 2), (5, n0 + 3)]) [4, 5] [2, 3] [[], [4], [], [2], [], []] (by kernel_rfl) (by kernel_rfl) (by kernel_rfl) (by kernel_rfl) (fun n0 hn0 => ⟨rfl, ?_, ?_⟩)
        · exact TOk_cons (.inr ⟨2, by decide, by decide, rfl⟩) (TOk_cons (.inr ⟨3, by decide, by decide, rfl⟩) (TOk_nil _ _))
        have e5 := lt_of_bnd hn0 hN5
        have e7 := lt_of_bnd hn0 hN7
        have ec := lt_of_bnd hn0 hNc
        have em := lt_of_bnd hn0 hNm
        simp -implicitDefEqProofs (maxSteps := 1000000) (disch := omega) only [↓xsP, ↓vc_seq, xsQ, xsT, xsR, xsD, ↓reduceIte, reduceCtorEq, eq_self, ne_eq, imp_self, forall_const, Nat.reduceEqDiff, Nat.reduceAdd, Nat.reduceSub, Nat.reduceMul, Nat.reduceLT, Nat.reduceLeDiff, Nat.reduceBEq, Nat.reduceDiv, Nat.reduceMod, Int.reduceToNat, Int.reduceNeg, Int.reduceAdd, Int.reduceSub, Int.reduceMul, Int.reduceEq, Int.reduceNe, Int.reduceLT, Int.reduceLE, Int.reduceGT, Int.reduceGE, hN5]
        refine ⟨.inl (by decide), .inl (by decide), ?_⟩
        simp -implicitDefEqProofs (maxSteps := 1000000) (disch := omega) only [↓xsP, ↓vc_seq, xsQ, xsT, xsR, xsD, ↓reduceIte, reduceCtorEq, eq_self, ne_eq, imp_self, forall_const, Nat.reduceEqDiff, Nat.reduceAdd, Nat.reduceSub, Nat.reduceMul, Nat.reduceLT, Nat.reduceLeDiff, Nat.reduceBEq, Nat.reduceDiv, Nat.reduceMod, Int.reduceToNat, Int.reduceNeg, Int.reduceAdd, Int.reduceSub, Int.reduceMul, Int.reduceEq, Int.reduceNe, Int.reduceLT, Int.reduceLE, Int.reduceGT, Int.reduceGE, hN5, hN7]
        have key2 : ∀ (A B C D E F : Blk) (Q : Mem), ((((((N.set (n0 + 2) A).set (n0 + 3) B).set (n0 + 2) C).set (n0 + 3) D).set (n0 + 2) E).set (n0 + 3) F) = Q → Q (n0 + 3) = some F ∧ N.le Q := by
          rintro A B C D E F Q rfl
          refine ⟨Mem.set_eq _ _ _, fun j bk hj => ?_⟩
          have := lt_of_bnd hn0 hj
          simp (disch := omega) only [Mem.set_ne, hj]
        generalize hQ : Mem.set (Mem.set (Mem.set (Mem.set (Mem.set (Mem.set N _ _) _ _) _ _) _ _) _ _) _ _ = Q
        obtain ⟨hQ3, hNQ⟩ := key2 _ _ _ _ _ _ _ hQ
        clear key2 hQ
        refine callI_of ((chk_spec root ns hns hp idc idm f (m1, s.2 + 1) x.left (k.lo x.key) Q hm1l (by show unmet m1 < f; omega) (by show 0 ≤ s.2 + 1; omega) (by show s.2 + 1 + (unmet m1 : Int) ≤ 2000; omega) (hNQ _ _ hNc) (hNQ _ _ hNm)).mono ?_)
        rintro _ _ ⟨rfl, rfl⟩
        obtain ⟨b1, m2, n2, hr1⟩ : ∃ b1 m2 n2, mayS ns f (m1, s.2 + 1) x.left (k.lo x.key) = (b1, (m2, n2)) := ⟨_, _, _, rfl⟩
        have hml := mayS_len ns f (m1, s.2 + 1) x.left (k.lo x.key)
        rw [hr1] at hml hmay
        simp only at hml hmay
        rw [hr1]
        have hQ2 : ∀ j bk, M j = some bk → j ≠ idc → j ≠ idm → Q j = some bk := fun j bk hj h1 h2 => hNQ _ _ (hMN _ _ hj h1 h2)
        have hQ7 := hNQ _ _ hN7
        cases b1 with
        | false =>
          rw [if_neg (by decide)] at hmay
          simp -implicitDefEqProofs (maxSteps := 1000000) (disch := omega) only [↓xsP, ↓vc_seq, xsQ, xsT, xsR, xsD, ↓reduceIte, reduceCtorEq, eq_self, ne_eq, imp_self, forall_const, Nat.reduceEqDiff, Nat.reduceAdd, Nat.reduceSub, Nat.reduceMul, Nat.reduceLT, Nat.reduceLeDiff, Nat.reduceBEq, Nat.reduceDiv, Nat.reduceMod, Int.reduceToNat, Int.reduceNeg, Int.reduceAdd, Int.reduceSub, Int.reduceMul, Int.reduceEq, Int.reduceNe, Int.reduceLT, Int.reduceLE, Int.reduceGT, Int.reduceGE, hQ7]
          refine fin_ok ?_ ⟨by rw [hmay], rfl⟩
          rw [hmay]
          exact set2_le hQ2 _ _
        | true =>
          rw [if_pos rfl] at hmay
          simp -implicitDefEqProofs (maxSteps := 1000000) (disch := omega) only [↓xsP, ↓vc_seq, xsQ, xsT, xsR, xsD, ↓reduceIte, reduceCtorEq, eq_self, ne_eq, imp_self, forall_const, Nat.reduceEqDiff, Nat.reduceAdd, Nat.reduceSub, Nat.reduceMul, Nat.reduceLT, Nat.reduceLeDiff, Nat.reduceBEq, Nat.reduceDiv, Nat.reduceMod, Int.reduceToNat, Int.reduceNeg, Int.reduceAdd, Int.reduceSub, Int.reduceMul, Int.reduceEq, Int.reduceNe, Int.reduceLT, Int.reduceLE, Int.reduceGT, Int.reduceGE, hQ7, hQ3]
          obtain ⟨hml1, hml2, hml3⟩ := hml
          have hml3 := hml3 hm1l
          refine callI_of ((chk_spec root ns hns hp idc idm f (m2, n2) x.right (k.hi x.key) _ (hml1.trans hm1l) (by show unmet m2 < f; omega) (by show 0 ≤ n2; omega) (by show n2 + (unmet m2 : Int) ≤ 2000; omega) (by rw [Mem.set_ne _ _ _ _ (Ne.symm hcm), Mem.set_eq]) (Mem.set_eq _ _ _)).mono ?_)
          rintro _ _ ⟨rfl, rfl⟩
          simp -implicitDefEqProofs (maxSteps := 1000000) (disch := omega) only [↓xsP, ↓vc_seq, xsQ, xsT, xsR, xsD, ↓reduceIte, reduceCtorEq, eq_self, ne_eq, imp_self, forall_const, Nat.reduceEqDiff, Nat.reduceAdd, Nat.reduceSub, Nat.reduceMul, Nat.reduceLT, Nat.reduceLeDiff, Nat.reduceBEq, Nat.reduceDiv, Nat.reduceMod, Int.reduceToNat, Int.reduceNeg, Int.reduceAdd, Int.reduceSub, Int.reduceMul, Int.reduceEq, Int.reduceNe, Int.reduceLT, Int.reduceLE, Int.reduceGT, Int.reduceGE, hQ7]
          refine fin_ok ?_ ⟨by rw [hmay], rfl⟩
          rw [hmay]
          refine set2_le (fun j bk hj h1 h2 => ?_) _ _
          rw [Mem.set_ne _ _ _ _ (Ne.symm h2), Mem.set_ne _ _ _ _ (Ne.symm h1)]
          exact hQ2 _ _ hj h1 h2
      · simp -implicitDefEqProofs (maxSteps := 1000000) (disch := omega) only [↓xsP, ↓vc_seq, xsQ, xsT, xsR, xsD, ↓reduceIte, reduceCtorEq, eq_self, ne_eq, imp_self, forall_const, Nat.reduceEqDiff, Nat.reduceAdd, Nat.reduceSub, Nat.reduceMul, Nat.reduceLT, Nat.reduceLeDiff, Nat.reduceBEq, Nat.reduceDiv, Nat.reduceMod, Int.reduceToNat, Int.reduceNeg, Int.reduceAdd, Int.reduceSub, Int.reduceMul, Int.reduceEq, Int.reduceNe, Int.reduceLT, Int.reduceLE, Int.reduceGT, Int.reduceGE, hN7, hN5, w5, w4]
        refine xwrite (fun n0 => [ (4, n0 + 2), (5, n0 + 3)]) [4, 5] [2, 3] [[], [4], [], [2], [], []] (by kernel_rfl) (by kernel_rfl) (by kernel_rfl) (by kernel_rfl) (fun n0 hn0 => ⟨rfl, ?_, ?_⟩)
        · exact TOk_cons (.inr ⟨2, by decide, by decide, rfl⟩) (TOk_cons (.inr ⟨3, by decide, by decide, rfl⟩) (TOk_nil _ _))
        have e5 := lt_of_bnd hn0 hN5
        have e7 := lt_of_bnd hn0 hN7
        have ec := lt_of_bnd hn0 hNc
        have em := lt_of_bnd hn0 hNm
        simp -implicitDefEqProofs (maxSteps := 1000000) (disch := omega) only [↓xsP, ↓vc_seq, xsQ, xsT, xsR, xsD, ↓reduceIte, reduceCtorEq, eq_self, ne_eq, imp_self, forall_const, Nat.reduceEqDiff, Nat.reduceAdd, Nat.reduceSub, Nat.reduceMul, Nat.reduceLT, Nat.reduceLeDiff, Nat.reduceBEq, Nat.reduceDiv, Nat.reduceMod, Int.reduceToNat, Int.reduceNeg, Int.reduceAdd, Int.reduceSub, Int.reduceMul, Int.reduceEq, Int.reduceNe, Int.reduceLT, Int.reduceLE, Int.reduceGT, Int.reduceGE, hN5]
        refine ⟨.inl (by decide), .inl (by decide), ?_⟩
        simp -implicitDefEqProofs (maxSteps := 1000000) (disch := omega) only [↓xsP, ↓vc_seq, xsQ, xsT, xsR, xsD, ↓reduceIte, reduceCtorEq, eq_self, ne_eq, imp_self, forall_const, Nat.reduceEqDiff, Nat.reduceAdd, Nat.reduceSub, Nat.reduceMul, Nat.reduceLT, Nat.reduceLeDiff, Nat.reduceBEq, Nat.reduceDiv, Nat.reduceMod, Int.reduceToNat, Int.reduceNeg, Int.reduceAdd, Int.reduceSub, Int.reduceMul, Int.reduceEq, Int.reduceNe, Int.reduceLT, Int.reduceLE, Int.reduceGT, Int.reduceGE, hN5, hN7]
        have key2 : ∀ (A B C D E F : Blk) (Q : Mem), ((((((N.set (n0 + 2) A).set (n0 + 3) B).set (n0 + 2) C).set (n0 + 3) D).set (n0 + 2) E).set (n0 + 3) F) = Q → Q (n0 + 3) = some F ∧ N.le Q := by
          rintro A B C D E F Q rfl
          refine ⟨Mem.set_eq _ _ _, fun j bk hj => ?_⟩
          have := lt_of_bnd hn0 hj
          simp (disch := omega) only [Mem.set_ne, hj]
        generalize hQ : Mem.set (Mem.set (Mem.set (Mem.set (Mem.set (Mem.set N _ _) _ _) _ _) _ _) _ _) _ _ = Q
        obtain ⟨hQ3, hNQ⟩ := key2 _ _ _ _ _ _ _ hQ
        clear key2 hQ
        refine callI_of ((chk_spec root ns hns hp idc idm f (m1, s.2 + 1) x.left (k.lo x.key) Q hm1l (by show unmet m1 < f; omega) (by show 0 ≤ s.2 + 1; omega) (by show s.2 + 1 + (unmet m1 : Int) ≤ 2000; omega) (hNQ _ _ hNc) (hNQ _ _ hNm)).mono ?_)
        rintro _ _ ⟨rfl, rfl⟩
        obtain ⟨b1, m2, n2, hr1⟩ : ∃ b1 m2 n2, mayS ns f (m1, s.2 + 1) x.left (k.lo x.key) = (b1, (m2, n2)) := ⟨_, _, _, rfl⟩
        have hml := mayS_len ns f (m1, s.2 + 1) x.left (k.lo x.key)
        rw [hr1] at hml hmay
        simp only at hml hmay
        rw [hr1]
        have hQ2 : ∀ j bk, M j = some bk → j ≠ idc → j ≠ idm → Q j = some bk := fun j bk hj h1 h2 => hNQ _ _ (hMN _ _ hj h1 h2)
        have hQ7 := hNQ _ _ hN7
        cases b1 with
        | false =>
          rw [if_neg (by decide)] at hmay
          simp -implicitDefEqProofs (maxSteps := 1000000) (disch := omega) only [↓xsP, ↓vc_seq, xsQ, xsT, xsR, xsD, ↓reduceIte, reduceCtorEq, eq_self, ne_eq, imp_self, forall_const, Nat.reduceEqDiff, Nat.reduceAdd, Nat.reduceSub, Nat.reduceMul, Nat.reduceLT, Nat.reduceLeDiff, Nat.reduceBEq, Nat.reduceDiv, Nat.reduceMod, Int.reduceToNat, Int.reduceNeg, Int.reduceAdd, Int.reduceSub, Int.reduceMul, Int.reduceEq, Int.reduceNe, Int.reduceLT, Int.reduceLE, Int.reduceGT, Int.reduceGE, hQ7]
          refine fin_ok ?_ ⟨by rw [hmay], rfl⟩
          rw [hmay]
          exact set2_le hQ2 _ _
        | true =>
          rw [if_pos rfl] at hmay
          simp -implicitDefEqProofs (maxSteps := 1000000) (disch := omega) only [↓xsP, ↓vc_seq, xsQ, xsT, xsR, xsD, ↓reduceIte, reduceCtorEq, eq_self, ne_eq, imp_self, forall_const, Nat.reduceEqDiff, Nat.reduceAdd, Nat.reduceSub, Nat.reduceMul, Nat.reduceLT, Nat.reduceLeDiff, Nat.reduceBEq, Nat.reduceDiv, Nat.reduceMod, Int.reduceToNat, Int.reduceNeg, Int.reduceAdd, Int.reduceSub, Int.reduceMul, Int.reduceEq, Int.reduceNe, Int.reduceLT, Int.reduceLE, Int.reduceGT, Int.reduceGE, hQ7, hQ3]
          obtain ⟨hml1, hml2, hml3⟩ := hml
          have hml3 := hml3 hm1l
          refine callI_of ((chk_spec root ns hns hp idc idm f (m2, n2) x.right (k.hi x.key) _ (hml1.trans hm1l) (by show unmet m2 < f; omega) (by show 0 ≤ n2; omega) (by show n2 + (unmet m2 : Int) ≤ 2000; omega) (by rw [Mem.set_ne _ _ _ _ (Ne.symm hcm), Mem.set_eq]) (Mem.set_eq _ _ _)).mono ?_)
          rintro _ _ ⟨rfl, rfl⟩
          simp -implicitDefEqProofs (maxSteps := 1000000) (disch := omega) only [↓xsP, ↓vc_seq, xsQ, xsT, xsR, xsD, ↓reduceIte, reduceCtorEq, eq_self, ne_eq, imp_self, forall_const, Nat.reduceEqDiff, Nat.reduceAdd, Nat.reduceSub, Nat.reduceMul, Nat.reduceLT, Nat.reduceLeDiff, Nat.reduceBEq, Nat.reduceDiv, Nat.reduceMod, Int.reduceToNat, Int.reduceNeg, Int.reduceAdd, Int.reduceSub, Int.reduceMul, Int.reduceEq, Int.reduceNe, Int.reduceLT, Int.reduceLE, Int.reduceGT, Int.reduceGE, hQ7]
          refine fin_ok ?_ ⟨by rw [hmay], rfl⟩
          rw [hmay]
          refine set2_le (fun j bk hj h1 h2 => ?_) _ _
          rw [Mem.set_ne _ _ _ _ (Ne.symm h2), Mem.set_ne _ _ _ _ (Ne.symm h1)]
          exact hQ2 _ _ hj h1 h2
end Go.X
set_option linter.unusedVariables false
set_option linter.unusedSimpArgs false
set_option maxHeartbeats 20000000
set_option maxRecDepth 100000
namespace Go.X
open Go.Proofs.Tryd (prog)

def trA (root : Int) (ns : List Nd) : AV := .agg [.int .i64 root, .sl (ns.map Nd.row)]
noncomputable def mayR (root : Int) (ns : List Nd) : Bool × CkS := mayS ns (ns.length + 1) (List.replicate ns.length false, 0) root ks0
noncomputable def mayT (root : Int) (ns : List Nd) : Bool := decide (ns.length ≤ 2000) && ((mayR root ns).1 && decide ((mayR root ns).2.2 = ns.length))
theorem unmet_rep (n : Nat) : unmet (List.replicate n false) = n := by simp [unmet]
/-- Rows that are not too long. -/
def Pok (ns : List Nd) : Prop := ∀ x ∈ ns, x.pairs.length ≤ 8796093022200
theorem tmay_spec (root : Int) (ns : List Nd) (hl : ns.length ≤ 140737488355328) (hp : Pok ns) (M : Mem) :
    XCalls Go.Proofs.Tryd.prog 19 [trA root ns] M fun r M' => r = .l (.bool (mayT root ns)) ∧ M' = M := by
  refine xcalls_intro (rs := [.tmp 2]) Go.Proofs.Tryd.func19 rfl (by kernel_rfl) rfl rfl (by kernel_rfl) (by simp) ?_
  simp -implicitDefEqProofs (maxSteps := 1000000) (disch := omega) only [↓xsP, ↓vc_seq, xsQ, xsT, xsR, xsD, ↓reduceIte, reduceCtorEq, eq_self, ne_eq, imp_self, forall_const, Nat.reduceEqDiff, Nat.reduceAdd, Nat.reduceSub, Nat.reduceMul, Nat.reduceLT, Nat.reduceLeDiff, Nat.reduceBEq, Nat.reduceDiv, Nat.reduceMod, Int.reduceToNat, Int.reduceNeg, Int.reduceAdd, Int.reduceSub, Int.reduceMul, Int.reduceEq, Int.reduceNe, Int.reduceLT, Int.reduceLE, Int.reduceGT, Int.reduceGE, trA]
  refine newI_intro fun id1 hid1 => ?_
  simp -implicitDefEqProofs (maxSteps := 1000000) (disch := omega) only [↓xsP, ↓vc_seq, xsQ, xsT, xsR, xsD, ↓reduceIte, reduceCtorEq, eq_self, ne_eq, imp_self, forall_const, Nat.reduceEqDiff, Nat.reduceAdd, Nat.reduceSub, Nat.reduceMul, Nat.reduceLT, Nat.reduceLeDiff, Nat.reduceBEq, Nat.reduceDiv, Nat.reduceMod, Int.reduceToNat, Int.reduceNeg, Int.reduceAdd, Int.reduceSub, Int.reduceMul, Int.reduceEq, Int.reduceNe, Int.reduceLT, Int.reduceLE, Int.reduceGT, Int.reduceGE]
  by_cases h1 : ns.length ≤ 2000
  rotate_left
  · have q1 : decide ((ns.length : Int) > 2000) = true := decide_eq_true (by omega)
    simp -implicitDefEqProofs (maxSteps := 1000000) (disch := omega) only [↓xsP, ↓vc_seq, xsQ, xsT, xsR, xsD, ↓reduceIte, reduceCtorEq, eq_self, ne_eq, imp_self, forall_const, Nat.reduceEqDiff, Nat.reduceAdd, Nat.reduceSub, Nat.reduceMul, Nat.reduceLT, Nat.reduceLeDiff, Nat.reduceBEq, Nat.reduceDiv, Nat.reduceMod, Int.reduceToNat, Int.reduceNeg, Int.reduceAdd, Int.reduceSub, Int.reduceMul, Int.reduceEq, Int.reduceNe, Int.reduceLT, Int.reduceLE, Int.reduceGT, Int.reduceGE, q1]
    refine fin_ok (le_new (Mem.le_refl _) hid1) ⟨?_, rfl⟩
    rw [mayT, decide_eq_false h1]
    rfl
  have q1 : decide ((ns.length : Int) > 2000) = false := decide_eq_false (by omega)
  obtain ⟨A, eA, hA1, hMA⟩ : ∃ A, A = M.set id1 (.cells 24 [[.int .i64 root, .sl (ns.map Nd.row)]] 0) ∧ A id1 = some (.cells 24 [[.int .i64 root, .sl (ns.map Nd.row)]] 0) ∧ M.le A := ⟨_, rfl, Mem.set_eq _ _ _, le_new (Mem.le_refl _) hid1⟩
  simp -implicitDefEqProofs (maxSteps := 1000000) (disch := omega) only [↓xsP, ↓vc_seq, xsQ, xsT, xsR, xsD, ↓reduceIte, reduceCtorEq, eq_self, ne_eq, imp_self, forall_const, Nat.reduceEqDiff, Nat.reduceAdd, Nat.reduceSub, Nat.reduceMul, Nat.reduceLT, Nat.reduceLeDiff, Nat.reduceBEq, Nat.reduceDiv, Nat.reduceMod, Int.reduceToNat, Int.reduceNeg, Int.reduceAdd, Int.reduceSub, Int.reduceMul, Int.reduceEq, Int.reduceNe, Int.reduceLT, Int.reduceLE, Int.reduceGT, Int.reduceGE, q1]
  rw [← eA]
  refine xwrite (fun n0 => [ ]) [] [4, 6] [[], [], [], [], [], [], [], []] (by kernel_rfl) (by kernel_rfl) (by kernel_rfl) (by kernel_rfl) (fun n0 hn0 => ⟨rfl, ?_, ?_⟩)
  · exact TOk_nil _ _
  have e1 := lt_of_bnd hn0 hA1
  simp -implicitDefEqProofs (maxSteps := 1000000) (disch := omega) only [↓xsP, ↓vc_seq, xsQ, xsT, xsR, xsD, ↓reduceIte, reduceCtorEq, eq_self, ne_eq, imp_self, forall_const, Nat.reduceEqDiff, Nat.reduceAdd, Nat.reduceSub, Nat.reduceMul, Nat.reduceLT, Nat.reduceLeDiff, Nat.reduceBEq, Nat.reduceDiv, Nat.reduceMod, Int.reduceToNat, Int.reduceNeg, Int.reduceAdd, Int.reduceSub, Int.reduceMul, Int.reduceEq, Int.reduceNe, Int.reduceLT, Int.reduceLE, Int.reduceGT, Int.reduceGE, hA1]
  rw [if_pos ⟨by omega, by omega, by omega⟩]
  simp -implicitDefEqProofs (maxSteps := 1000000) (disch := omega) only [↓xsP, ↓vc_seq, xsQ, xsT, xsR, xsD, ↓reduceIte, reduceCtorEq, eq_self, ne_eq, imp_self, forall_const, Nat.reduceEqDiff, Nat.reduceAdd, Nat.reduceSub, Nat.reduceMul, Nat.reduceLT, Nat.reduceLeDiff, Nat.reduceBEq, Nat.reduceDiv, Nat.reduceMod, Int.reduceToNat, Int.reduceNeg, Int.reduceAdd, Int.reduceSub, Int.reduceMul, Int.reduceEq, Int.reduceNe, Int.reduceLT, Int.reduceLE, Int.reduceGT, Int.reduceGE, hA1, List.length_replicate]
  refine ⟨.inl (by decide), .inl (by decide), ?_⟩
  obtain ⟨idm, eidm⟩ : ∃ x, x = n0 + 4 := ⟨_, rfl⟩
  obtain ⟨idc, eidc⟩ : ∃ x, x = n0 + 6 := ⟨_, rfl⟩
  rw [← eidm, ← eidc]
  have hcm : idc ≠ idm := by omega
  have key : ∀ (X : Blk) (N : Mem), ((A.set idm X).set idc (ckB root ns idm 0)) = N → N idm = some X ∧ N idc = some (ckB root ns idm 0) ∧ A.le N ∧ A idm = none ∧ A idc = none := by
    rintro X N rfl
    have hn : ∀ j, n0 ≤ j → A j = none := hn0
    refine ⟨by rw [Mem.set_ne _ _ _ _ hcm, Mem.set_eq], Mem.set_eq _ _ _, fun j bk hj => ?_, hn _ (by omega), hn _ (by omega)⟩
    have := lt_of_bnd hn0 hj
    rw [Mem.set_ne _ _ _ _ (by omega), Mem.set_ne _ _ _ _ (by omega)]
    exact hj
  generalize hN : Mem.set (Mem.set A _ _) _ _ = N
  obtain ⟨hNm, hNc, hAN, hAm, hAc⟩ := key _ _ hN
  clear key hN
  have hN1 := hAN _ _ hA1
  have hrep : List.replicate ns.length [Lf.bool false] = (List.replicate ns.length false).map brow := by rw [List.map_replicate]; rfl
  rw [hrep] at hNm
  clear hn0 eidm eidc e1
  refine xwrite (fun n0 => [ (4, idc), (4, idm)]) [4, 4] [] [[], [], [], [], [], [], [], [], [], [], [], [], [], [], [], []] (by kernel_rfl) (by kernel_rfl) (by kernel_rfl) (by kernel_rfl) (fun n0 hn0 => ⟨rfl, ?_, ?_⟩)
  · exact TOk_cons (.inl (lt_of_bnd hn0 hNc)) (TOk_cons (.inl (lt_of_bnd hn0 hNm)) (TOk_nil _ _))
  simp -implicitDefEqProofs (maxSteps := 1000000) (disch := omega) only [↓xsP, ↓vc_seq, xsQ, xsT, xsR, xsD, ↓reduceIte, reduceCtorEq, eq_self, ne_eq, imp_self, forall_const, Nat.reduceEqDiff, Nat.reduceAdd, Nat.reduceSub, Nat.reduceMul, Nat.reduceLT, Nat.reduceLeDiff, Nat.reduceBEq, Nat.reduceDiv, Nat.reduceMod, Int.reduceToNat, Int.reduceNeg, Int.reduceAdd, Int.reduceSub, Int.reduceMul, Int.reduceEq, Int.reduceNe, Int.reduceLT, Int.reduceLE, Int.reduceGT, Int.reduceGE, hN1]
  have hml := mayS_len ns (ns.length + 1) (List.replicate ns.length false, 0) root ks0
  have hr : mayS ns (ns.length + 1) (List.replicate ns.length false, 0) root ks0 = mayR root ns := rfl
  rw [hr] at hml
  refine wcallI_eff (v := .l (.bool (mayR root ns).1)) (e := [(idc, some (ckB root ns idm (mayR root ns).2.2)), (idm, some (mtB (mayR root ns).2.1))]) (fun M' hle => (chk_spec root ns h1 (fun x hx => by have := hp x hx; omega) idc idm (ns.length + 1) (List.replicate ns.length false, 0) root ks0 M' List.length_replicate (by rw [unmet_rep]; omega) (Int.le_refl 0) (by rw [unmet_rep]; simp only; omega) (hle _ _ hNc) (hle _ _ hNm)).mono ?_) ?_
  · rintro _ _ ⟨rfl, rfl⟩
    exact ⟨rfl, Mem.le_refl _⟩
  have e1 : id1 ≠ idc := fun e => by rw [← e, hA1] at hAc; cases hAc
  have e2 : id1 ≠ idm := fun e => by rw [← e, hA1] at hAm; cases hAm
  have hfin : ∀ X Y : Blk, M.le ((N.set idc X).set idm Y) := fun X Y k bk hk => by
    have hk' := hMA _ _ hk
    rw [Mem.set_ne _ _ _ _ (fun e => by rw [e, hk'] at hAm; cases hAm), Mem.set_ne _ _ _ _ (fun e => by rw [e, hk'] at hAc; cases hAc)]
    exact hAN _ _ hk'
  obtain ⟨b, m2, n2, hr2⟩ : ∃ b m2 n2, mayR root ns = (b, (m2, n2)) := ⟨_, _, _, rfl⟩
  have hT : mayT root ns = (b && decide (n2 = ns.length)) := by rw [mayT, decide_eq_true h1, Bool.true_and, hr2]
  rw [hr2]
  have hset : ∀ X : Blk, ((N.set idc (ckB root ns idm n2)).set idm X) idc = some (ckB root ns idm n2) := fun X => by rw [Mem.set_ne _ _ _ _ (Ne.symm hcm), Mem.set_eq]
  have hset1 : ∀ X Y : Blk, ((N.set idc X).set idm Y) id1 = some (.cells 24 [[.int .i64 root, .sl (ns.map Nd.row)]] 0) := fun X Y => by rw [Mem.set_ne _ _ _ _ (Ne.symm e2), Mem.set_ne _ _ _ _ (Ne.symm e1)]; exact hN1
  rw [ckB] at hset
  cases b with
  | false =>
    simp -implicitDefEqProofs (maxSteps := 1000000) (disch := omega) only [↓xsP, ↓vc_seq, xsQ, xsT, xsR, xsD, ↓reduceIte, reduceCtorEq, eq_self, ne_eq, imp_self, forall_const, Nat.reduceEqDiff, Nat.reduceAdd, Nat.reduceSub, Nat.reduceMul, Nat.reduceLT, Nat.reduceLeDiff, Nat.reduceBEq, Nat.reduceDiv, Nat.reduceMod, Int.reduceToNat, Int.reduceNeg, Int.reduceAdd, Int.reduceSub, Int.reduceMul, Int.reduceEq, Int.reduceNe, Int.reduceLT, Int.reduceLE, Int.reduceGT, Int.reduceGE, hN1]
    refine fin_ok (M' := M) (hfin _ _) ?_
    exact ⟨by rw [hT]; rfl, rfl⟩
  | true =>
    simp -implicitDefEqProofs (maxSteps := 1000000) (disch := omega) only [↓xsP, ↓vc_seq, xsQ, xsT, xsR, xsD, ↓reduceIte, reduceCtorEq, eq_self, ne_eq, imp_self, forall_const, Nat.reduceEqDiff, Nat.reduceAdd, Nat.reduceSub, Nat.reduceMul, Nat.reduceLT, Nat.reduceLeDiff, Nat.reduceBEq, Nat.reduceDiv, Nat.reduceMod, Int.reduceToNat, Int.reduceNeg, Int.reduceAdd, Int.reduceSub, Int.reduceMul, Int.reduceEq, Int.reduceNe, Int.reduceLT, Int.reduceLE, Int.reduceGT, Int.reduceGE, hset, hN1, ckB]
    exact fin_ok (hfin _ _) ⟨by rw [hT]; rfl, rfl⟩
end Go.X
namespace Go.Proofs
open Go.Shelf
def Tryd.lays103_ren : Go.Shelf.Ren := ⟨fun | 103 => 55 | 210 => 64 | 206 => 69 | n => n, fun | 9 => 9 | 4 => 4 | 24 => 90 | 3 => 3 | n => n, fun | n => n⟩
theorem Tryd.lays103 : Go.Proofs.Lays.n103 Tryd.prog Tryd.lays103_ren := {
  mixed := by kernel_rfl
  f103 := Tryd.func55.trans (congrArg some (by kernel_rfl))
  f206 := Tryd.func69.trans (congrArg some (by kernel_rfl))
  f210 := Tryd.func64.trans (congrArg some (by kernel_rfl))
  t3 := Tryd.underlying3
  a3 := Tryd.isAgg3
  z3 := Tryd.sizeOf3
  v3 := Tryd.zeroValue3
  t4 := Tryd.underlying4
  a4 := Tryd.isAgg4
  z4 := Tryd.sizeOf4
  v4 := Tryd.zeroValue4
  t9 := Tryd.underlying9
  a9 := Tryd.isAgg9
  z9 := Tryd.sizeOf9
  v9 := Tryd.zeroValue9
  t24 := Tryd.underlying90
  a24 := Tryd.isAgg90
  z24 := Tryd.sizeOf90
  v24 := Tryd.zeroValue90 }
open Go.RowKit in
/-- strings.CutPrefix: "CutPrefix returns s without the provided leading prefix string and reports whether it found the prefix. If s doesn't start with prefix, CutPrefix returns s, false. If prefix is the empty string, CutPrefix returns s, true.": IT RETURNS '(Lib.trimPrefix s p, Lib.hasPrefix s p)'; the world is as it was. (LAID: no walk: one application.) -/
theorem Tryd.strings_CutPrefix (s p : ByteArray) (w : World) :
    Calls Tryd.prog 55 #[.string s, .string p] w fun e w' => e = .returned (.tuple #[.string ⟨(Lib.trimPrefix s.data.toList p.data.toList).toArray⟩, .bool (Lib.hasPrefix s.data.toList p.data.toList)]) ∧ w' = w := Any.strings_CutPrefix Tryd.lays103 s p w
def Tryd.lays283_ren : Go.Shelf.Ren := ⟨fun | 283 => 72 | n => n, fun | 3 => 3 | 9 => 9 | 4 => 4 | n => n, fun | n => n⟩
theorem Tryd.lays283 : Go.Proofs.Lays.n283 Tryd.prog Tryd.lays283_ren := {
  mixed := by kernel_rfl
  f283 := Tryd.func72.trans (congrArg some (by kernel_rfl))
  t3 := Tryd.underlying3
  a3 := Tryd.isAgg3
  z3 := Tryd.sizeOf3
  v3 := Tryd.zeroValue3
  t4 := Tryd.underlying4
  a4 := Tryd.isAgg4
  z4 := Tryd.sizeOf4
  v4 := Tryd.zeroValue4
  t9 := Tryd.underlying9
  a9 := Tryd.isAgg9
  z9 := Tryd.sizeOf9
  v9 := Tryd.zeroValue9 }
open Go.Lib in
/-- internal/strconv.small: "small returns the string for an i with 0 <= i < nSmalls.": i's decimal numeral. The world is as it was. (LAID: no walk: one application.) -/
theorem Tryd.internal_strconv_small (i : Nat) (h : i < 100) (w : World) :
    Calls Tryd.prog 72 #[.int .i64 i] w fun e w' => e = .returned (.string ⟨(Lib.decDigits i).toArray⟩) ∧ w' = w := Any.internal_strconv_small Tryd.lays283 i h w
def Tryd.laysM284_ren : Go.Shelf.Ren := ⟨fun | 284 => 73 | 129 => 82 | 317 => 81 | 318 => 83 | n => n, fun | 53 => 42 | 3 => 3 | 212 => 118 | 0 => 0 | 4 => 4 | 46 => 121 | 5 => 5 | 9 => 9 | n => n, fun | 17 => 0 | n => n⟩
theorem Tryd.laysM284 : Go.Proofs.LaysM.n284 Tryd.prog Tryd.laysM284_ren := {
  mixed := by kernel_rfl
  f129 := Tryd.func82.trans (congrArg some (by kernel_rfl))
  f284 := Tryd.func73.trans (congrArg some (by kernel_rfl))
  f317 := Tryd.func81.trans (congrArg some (by kernel_rfl))
  f318 := Tryd.func83.trans (congrArg some (by kernel_rfl))
  t0 := Tryd.underlying0
  a0 := Tryd.isAgg0
  z0 := Tryd.sizeOf0
  v0 := Tryd.zeroValue0
  t3 := Tryd.underlying3
  a3 := Tryd.isAgg3
  z3 := Tryd.sizeOf3
  v3 := Tryd.zeroValue3
  t4 := Tryd.underlying4
  a4 := Tryd.isAgg4
  z4 := Tryd.sizeOf4
  v4 := Tryd.zeroValue4
  t5 := Tryd.underlying5
  a5 := Tryd.isAgg5
  z5 := Tryd.sizeOf5
  v5 := Tryd.zeroValue5
  t9 := Tryd.underlying9
  a9 := Tryd.isAgg9
  z9 := Tryd.sizeOf9
  v9 := Tryd.zeroValue9
  t46 := Tryd.underlying121
  a46 := Tryd.isAgg121
  z46 := Tryd.sizeOf121
  v46 := Tryd.zeroValue121
  t53 := Tryd.underlying42
  a53 := Tryd.isAgg42
  z53 := Tryd.sizeOf42
  v53 := Tryd.zeroValue42
  t212 := Tryd.underlying118
  a212 := Tryd.isAgg118
  z212 := Tryd.sizeOf118
  v212 := Tryd.zeroValue118
  g17 := by kernel_rfl
  i0 := by kernel_rfl
  i3 := by kernel_rfl
  i4 := by kernel_rfl
  i5 := by kernel_rfl
  i9 := by kernel_rfl
  i46 := by kernel_rfl
  i53 := by kernel_rfl
  i212 := by kernel_rfl
  m17 := by kernel_rfl }
open Go.Lib in
/-- internal/strconv.numDigits, at a d that is not 0: THE NUMBER OF d's DECIMAL DIGITS. The world is as it was. (LAID: no walk: one application.) -/
theorem Tryd.internal_strconv_numDigits (u : Nat) (h1 : 1 ≤ u) (h2 : u < 18446744073709551616) (w : World) (htab : Lib.TabIs Tryd.prog w "internal/strconv.uint64pow10" .u64 Lib.pow10Tab) :
    Calls Tryd.prog 73 #[.int .u64 u] w fun e w' => e = .returned (.int .i64 (Lib.nDigits u)) ∧ w' = w := Any.internal_strconv_numDigits Tryd.laysM284 u h1 h2 w htab
def Tryd.lays285_ren : Go.Shelf.Ren := ⟨fun | 285 => 74 | n => n, fun | 37 => 61 | 53 => 42 | 3 => 3 | 4 => 4 | 51 => 119 | 9 => 9 | 5 => 5 | 0 => 0 | n => n, fun | n => n⟩
theorem Tryd.lays285 : Go.Proofs.Lays.n285 Tryd.prog Tryd.lays285_ren := {
  mixed := by kernel_rfl
  f285 := Tryd.func74.trans (congrArg some (by kernel_rfl))
  t0 := Tryd.underlying0
  a0 := Tryd.isAgg0
  z0 := Tryd.sizeOf0
  v0 := Tryd.zeroValue0
  t3 := Tryd.underlying3
  a3 := Tryd.isAgg3
  z3 := Tryd.sizeOf3
  v3 := Tryd.zeroValue3
  t4 := Tryd.underlying4
  a4 := Tryd.isAgg4
  z4 := Tryd.sizeOf4
  v4 := Tryd.zeroValue4
  t5 := Tryd.underlying5
  a5 := Tryd.isAgg5
  z5 := Tryd.sizeOf5
  v5 := Tryd.zeroValue5
  t9 := Tryd.underlying9
  a9 := Tryd.isAgg9
  z9 := Tryd.sizeOf9
  v9 := Tryd.zeroValue9
  t37 := Tryd.underlying61
  a37 := Tryd.isAgg61
  z37 := Tryd.sizeOf61
  v37 := Tryd.zeroValue61
  t51 := Tryd.underlying119
  a51 := Tryd.isAgg119
  z51 := Tryd.sizeOf119
  v51 := Tryd.zeroValue119
  t53 := Tryd.underlying42
  a53 := Tryd.isAgg42
  z53 := Tryd.sizeOf42
  v53 := Tryd.zeroValue42 }
open Go.RowKit Go.Sort Go.Lib in
/-- internal/strconv.formatBase10: "formatBase10 formats the decimal representation of u into a. The caller is responsible for ensuring that a is big enough to hold u. If a is too big, leading zeros will be filled in as needed.": THE ROW HOLDS u's DIGITS ('FmtInv .. 0 ..': every place t holds 'dg u (len - 1 - t)'); all else is as it was but for the count of draws. (LAID: no walk: one application.) -/
theorem Tryd.internal_strconv_formatBase10 (blk off cap : Nat) (u : Nat) (d : Array UInt8) (w : World) (hH : Holds (fun (b : UInt8) => Value.int .u8 (b.toNat : Int)) w blk off d) (hu : u < 10 ^ d.size) (hu64 : u < 18446744073709551616) (hsz : d.size < 4611686018427387904) :
    Calls Tryd.prog 74 #[.slice (some ⟨blk, off, none⟩) d.size cap, .int .u64 u] w fun e w' =>
      e = .returned (.tuple #[]) ∧ ∃ (n v' : Nat) (dk : Array UInt8), w' = (putRow (fun (b : UInt8) => Value.int .u8 (b.toNat : Int)) w blk off dk).drewN n ∧ FmtInv d.size u 0 v' dk := Any.internal_strconv_formatBase10 Tryd.lays285 blk off cap u d w hH hu hu64 hsz
def Tryd.laysM171_ren : Go.Shelf.Ren := ⟨fun | 171 => 49 | 243 => 61 | 246 => 68 | 283 => 72 | 284 => 73 | 285 => 74 | 286 => 75 | 129 => 82 | 317 => 81 | 318 => 83 | 319 => 84 | 320 => 85 | 337 => 89 | 338 => 90 | n => n, fun | 3 => 3 | 9 => 9 | 2 => 2 | 4 => 4 | 171 => 105 | 0 => 0 | 53 => 42 | 37 => 61 | 5 => 5 | 173 => 108 | 212 => 118 | 51 => 119 | 20 => 20 | 213 => 120 | 46 => 121 | 232 => 135 | 233 => 136 | n => n, fun | 17 => 0 | 18 => 3 | 19 => 4 | n => n⟩
theorem Tryd.laysM171 : Go.Proofs.LaysM.n171 Tryd.prog Tryd.laysM171_ren := {
  mixed := by kernel_rfl
  f129 := Tryd.func82.trans (congrArg some (by kernel_rfl))
  f171 := Tryd.func49.trans (congrArg some (by kernel_rfl))
  f243 := Tryd.func61.trans (congrArg some (by kernel_rfl))
  f246 := Tryd.func68.trans (congrArg some (by kernel_rfl))
  f283 := Tryd.func72.trans (congrArg some (by kernel_rfl))
  f284 := Tryd.func73.trans (congrArg some (by kernel_rfl))
  f285 := Tryd.func74.trans (congrArg some (by kernel_rfl))
  f286 := Tryd.func75.trans (congrArg some (by kernel_rfl))
  f317 := Tryd.func81.trans (congrArg some (by kernel_rfl))
  f318 := Tryd.func83.trans (congrArg some (by kernel_rfl))
  f319 := Tryd.func84.trans (congrArg some (by kernel_rfl))
  f320 := Tryd.func85.trans (congrArg some (by kernel_rfl))
  f337 := Tryd.func89.trans (congrArg some (by kernel_rfl))
  f338 := Tryd.func90.trans (congrArg some (by kernel_rfl))
  t0 := Tryd.underlying0
  a0 := Tryd.isAgg0
  z0 := Tryd.sizeOf0
  v0 := Tryd.zeroValue0
  t2 := Tryd.underlying2
  a2 := Tryd.isAgg2
  z2 := Tryd.sizeOf2
  v2 := Tryd.zeroValue2
  t3 := Tryd.underlying3
  a3 := Tryd.isAgg3
  z3 := Tryd.sizeOf3
  v3 := Tryd.zeroValue3
  t4 := Tryd.underlying4
  a4 := Tryd.isAgg4
  z4 := Tryd.sizeOf4
  v4 := Tryd.zeroValue4
  t5 := Tryd.underlying5
  a5 := Tryd.isAgg5
  z5 := Tryd.sizeOf5
  v5 := Tryd.zeroValue5
  t9 := Tryd.underlying9
  a9 := Tryd.isAgg9
  z9 := Tryd.sizeOf9
  v9 := Tryd.zeroValue9
  t20 := Tryd.underlying20
  a20 := Tryd.isAgg20
  z20 := Tryd.sizeOf20
  v20 := Tryd.zeroValue20
  t37 := Tryd.underlying61
  a37 := Tryd.isAgg61
  z37 := Tryd.sizeOf61
  v37 := Tryd.zeroValue61
  t46 := Tryd.underlying121
  a46 := Tryd.isAgg121
  z46 := Tryd.sizeOf121
  v46 := Tryd.zeroValue121
  t51 := Tryd.underlying119
  a51 := Tryd.isAgg119
  z51 := Tryd.sizeOf119
  v51 := Tryd.zeroValue119
  t53 := Tryd.underlying42
  a53 := Tryd.isAgg42
  z53 := Tryd.sizeOf42
  v53 := Tryd.zeroValue42
  t171 := Tryd.underlying105
  a171 := Tryd.isAgg105
  z171 := Tryd.sizeOf105
  v171 := Tryd.zeroValue105
  t173 := Tryd.underlying108
  a173 := Tryd.isAgg108
  z173 := Tryd.sizeOf108
  v173 := Tryd.zeroValue108
  t212 := Tryd.underlying118
  a212 := Tryd.isAgg118
  z212 := Tryd.sizeOf118
  v212 := Tryd.zeroValue118
  t213 := Tryd.underlying120
  a213 := Tryd.isAgg120
  z213 := Tryd.sizeOf120
  t232 := Tryd.underlying135
  a232 := Tryd.isAgg135
  z232 := Tryd.sizeOf135
  v232 := Tryd.zeroValue135
  t233 := Tryd.underlying136
  a233 := Tryd.isAgg136
  z233 := Tryd.sizeOf136
  v233 := Tryd.zeroValue136
  g17 := by kernel_rfl
  g18 := by kernel_rfl
  g19 := by kernel_rfl
  i0 := by kernel_rfl
  i2 := by kernel_rfl
  i3 := by kernel_rfl
  i4 := by kernel_rfl
  i5 := by kernel_rfl
  i9 := by kernel_rfl
  i20 := by kernel_rfl
  i37 := by kernel_rfl
  i46 := by kernel_rfl
  i51 := by kernel_rfl
  i53 := by kernel_rfl
  i171 := by kernel_rfl
  i173 := by kernel_rfl
  i212 := by kernel_rfl
  i232 := by kernel_rfl
  i233 := by kernel_rfl
  m17 := by kernel_rfl
  m18 := by kernel_rfl
  m19 := by kernel_rfl }
open Go.RowKit Go.Sort Go.Lib in
/-- strconv.Itoa: "Itoa is equivalent to FormatInt(int64(i), 10).": i's DECIMAL NUMERAL ('Lib.itoa': a '-' where i is negative, then the digits), FOR EVERY int. The world behind the call: the world before it, new blocks behind the heap (the library's 'var a [24]byte'), draws. (LAID: no walk: one application.) -/
theorem Tryd.strconv_Itoa (n : Int) (h0 : -9223372036854775808 ≤ n) (h1 : n ≤ 9223372036854775807) (w : World) (htab : Lib.TabIs Tryd.prog w "internal/strconv.uint64pow10" .u64 Lib.pow10Tab) :
    Calls Tryd.prog 49 #[.int .i64 n] w fun e w' => e = .returned (.string ⟨(Lib.itoa n).toArray⟩) ∧ ∃ k os, w' = grow (w.drewN k) os := Any.strconv_Itoa Tryd.laysM171 n h0 h1 w htab
def Tryd.laysC172_ren : Go.Shelf.Ren := ⟨fun | 172 => 65 | 244 => 70 | 245 => 71 | 247 => 76 | 279 => 77 | 280 => 78 | 281 => 79 | 282 => 80 | 287 => 86 | 316 => 87 | 171 => 49 | 205 => 88 | 321 => 91 | 322 => 92 | 243 => 61 | 246 => 68 | 283 => 72 | 284 => 73 | 285 => 74 | 286 => 75 | 129 => 82 | 317 => 81 | 318 => 83 | 319 => 84 | 320 => 85 | 337 => 89 | 338 => 90 | n => n, fun | 9 => 9 | 3 => 3 | 75 => 97 | 76 => 98 | 4 => 4 | 5 => 5 | 167 => 110 | 37 => 61 | 0 => 0 | 85 => 111 | 2 => 2 | 168 => 113 | 53 => 42 | 175 => 123 | 46 => 121 | 210 => 127 | 127 => 131 | 145 => 134 | 143 => 132 | 21 => 21 | 171 => 105 | 173 => 108 | 212 => 118 | 51 => 119 | 20 => 20 | 213 => 120 | 232 => 135 | 233 => 136 | 80 => 137 | n => n, fun | 15 => 1 | 16 => 2 | 17 => 0 | 18 => 3 | 19 => 4 | n => n⟩
theorem Tryd.laysC172 : Go.Proofs.LaysC.n172 Tryd.prog Tryd.laysC172_ren := {
  mixed := by kernel_rfl
  f129 := Tryd.func82.trans (congrArg some (by kernel_rfl))
  f171 := Tryd.func49.trans (congrArg some (by kernel_rfl))
  f172 := Tryd.func65.trans (congrArg some (by kernel_rfl))
  f205 := Tryd.func88.trans (congrArg some (by kernel_rfl))
  f243 := Tryd.func61.trans (congrArg some (by kernel_rfl))
  f244 := Tryd.func70.trans (congrArg some (by kernel_rfl))
  f245 := Tryd.func71.trans (congrArg some (by kernel_rfl))
  f246 := Tryd.func68.trans (congrArg some (by kernel_rfl))
  f247 := Tryd.func76.trans (congrArg some (by kernel_rfl))
  f279 := Tryd.func77.trans (congrArg some (by kernel_rfl))
  f280 := Tryd.func78.trans (congrArg some (by kernel_rfl))
  f281 := Tryd.func79.trans (congrArg some (by kernel_rfl))
  f282 := Tryd.func80.trans (congrArg some (by kernel_rfl))
  f283 := Tryd.func72.trans (congrArg some (by kernel_rfl))
  f284 := Tryd.func73.trans (congrArg some (by kernel_rfl))
  f285 := Tryd.func74.trans (congrArg some (by kernel_rfl))
  f286 := Tryd.func75.trans (congrArg some (by kernel_rfl))
  f287 := Tryd.func86.trans (congrArg some (by kernel_rfl))
  f316 := Tryd.func87.trans (congrArg some (by kernel_rfl))
  f317 := Tryd.func81.trans (congrArg some (by kernel_rfl))
  f318 := Tryd.func83.trans (congrArg some (by kernel_rfl))
  f319 := Tryd.func84.trans (congrArg some (by kernel_rfl))
  f320 := Tryd.func85.trans (congrArg some (by kernel_rfl))
  f321 := Tryd.func91.trans (congrArg some (by kernel_rfl))
  f322 := Tryd.func92.trans (congrArg some (by kernel_rfl))
  f337 := Tryd.func89.trans (congrArg some (by kernel_rfl))
  f338 := Tryd.func90.trans (congrArg some (by kernel_rfl))
  t0 := Tryd.underlying0
  a0 := Tryd.isAgg0
  z0 := Tryd.sizeOf0
  v0 := Tryd.zeroValue0
  t2 := Tryd.underlying2
  a2 := Tryd.isAgg2
  z2 := Tryd.sizeOf2
  v2 := Tryd.zeroValue2
  t3 := Tryd.underlying3
  a3 := Tryd.isAgg3
  z3 := Tryd.sizeOf3
  v3 := Tryd.zeroValue3
  t4 := Tryd.underlying4
  a4 := Tryd.isAgg4
  z4 := Tryd.sizeOf4
  v4 := Tryd.zeroValue4
  t5 := Tryd.underlying5
  a5 := Tryd.isAgg5
  z5 := Tryd.sizeOf5
  v5 := Tryd.zeroValue5
  t9 := Tryd.underlying9
  a9 := Tryd.isAgg9
  z9 := Tryd.sizeOf9
  v9 := Tryd.zeroValue9
  t20 := Tryd.underlying20
  a20 := Tryd.isAgg20
  z20 := Tryd.sizeOf20
  v20 := Tryd.zeroValue20
  t21 := Tryd.underlying21
  a21 := Tryd.isAgg21
  z21 := Tryd.sizeOf21
  v21 := Tryd.zeroValue21
  t37 := Tryd.underlying61
  a37 := Tryd.isAgg61
  z37 := Tryd.sizeOf61
  v37 := Tryd.zeroValue61
  t46 := Tryd.underlying121
  a46 := Tryd.isAgg121
  z46 := Tryd.sizeOf121
  v46 := Tryd.zeroValue121
  t51 := Tryd.underlying119
  a51 := Tryd.isAgg119
  z51 := Tryd.sizeOf119
  v51 := Tryd.zeroValue119
  t53 := Tryd.underlying42
  a53 := Tryd.isAgg42
  z53 := Tryd.sizeOf42
  v53 := Tryd.zeroValue42
  t75 := Tryd.underlying97
  a75 := Tryd.isAgg97
  z75 := Tryd.sizeOf97
  v75 := Tryd.zeroValue97
  t76 := Tryd.underlying98
  a76 := Tryd.isAgg98
  z76 := Tryd.sizeOf98
  v76 := Tryd.zeroValue98
  t85 := Tryd.underlying111
  a85 := Tryd.isAgg111
  z85 := Tryd.sizeOf111
  v85 := Tryd.zeroValue111
  t127 := Tryd.underlying131
  a127 := Tryd.isAgg131
  z127 := Tryd.sizeOf131
  v127 := Tryd.zeroValue131
  t143 := Tryd.underlying132
  a143 := Tryd.isAgg132
  z143 := Tryd.sizeOf132
  v143 := Tryd.zeroValue132
  t145 := Tryd.underlying134
  a145 := Tryd.isAgg134
  z145 := Tryd.sizeOf134
  v145 := Tryd.zeroValue134
  t167 := Tryd.underlying110
  a167 := Tryd.isAgg110
  z167 := Tryd.sizeOf110
  v167 := Tryd.zeroValue110
  t168 := Tryd.underlying113
  a168 := Tryd.isAgg113
  z168 := Tryd.sizeOf113
  v168 := Tryd.zeroValue113
  t171 := Tryd.underlying105
  a171 := Tryd.isAgg105
  z171 := Tryd.sizeOf105
  v171 := Tryd.zeroValue105
  t173 := Tryd.underlying108
  a173 := Tryd.isAgg108
  z173 := Tryd.sizeOf108
  v173 := Tryd.zeroValue108
  t175 := Tryd.underlying123
  a175 := Tryd.isAgg123
  z175 := Tryd.sizeOf123
  v175 := Tryd.zeroValue123
  t210 := Tryd.underlying127
  a210 := Tryd.isAgg127
  z210 := Tryd.sizeOf127
  v210 := Tryd.zeroValue127
  t212 := Tryd.underlying118
  a212 := Tryd.isAgg118
  z212 := Tryd.sizeOf118
  v212 := Tryd.zeroValue118
  t213 := Tryd.underlying120
  a213 := Tryd.isAgg120
  z213 := Tryd.sizeOf120
  t232 := Tryd.underlying135
  a232 := Tryd.isAgg135
  z232 := Tryd.sizeOf135
  v232 := Tryd.zeroValue135
  t233 := Tryd.underlying136
  a233 := Tryd.isAgg136
  z233 := Tryd.sizeOf136
  v233 := Tryd.zeroValue136
  g15 := by kernel_rfl
  g16 := by kernel_rfl
  g17 := by kernel_rfl
  g18 := by kernel_rfl
  g19 := by kernel_rfl
  t80 := Tryd.underlying137
  a80 := Tryd.isAgg137
  z80 := Tryd.sizeOf137
  v80 := Tryd.zeroValue137
  i0 := by kernel_rfl
  i2 := by kernel_rfl
  i3 := by kernel_rfl
  i4 := by kernel_rfl
  i5 := by kernel_rfl
  i9 := by kernel_rfl
  i20 := by kernel_rfl
  i21 := by kernel_rfl
  i37 := by kernel_rfl
  i46 := by kernel_rfl
  i51 := by kernel_rfl
  i53 := by kernel_rfl
  i75 := by kernel_rfl
  i76 := by kernel_rfl
  i80 := by kernel_rfl
  i85 := by kernel_rfl
  i127 := by kernel_rfl
  i143 := by kernel_rfl
  i145 := by kernel_rfl
  i167 := by kernel_rfl
  i168 := by kernel_rfl
  i171 := by kernel_rfl
  i173 := by kernel_rfl
  i175 := by kernel_rfl
  i210 := by kernel_rfl
  i212 := by kernel_rfl
  i232 := by kernel_rfl
  i233 := by kernel_rfl
  m15 := by kernel_rfl
  m16 := by kernel_rfl
  m17 := by kernel_rfl
  m18 := by kernel_rfl
  m19 := by kernel_rfl
  c0 := by kernel_rfl
  c2 := by kernel_rfl
  c3 := by kernel_rfl
  c4 := by kernel_rfl
  c5 := by kernel_rfl
  c9 := by kernel_rfl
  c20 := by kernel_rfl
  c21 := by kernel_rfl
  c37 := by kernel_rfl
  c46 := by kernel_rfl
  c51 := by kernel_rfl
  c53 := by kernel_rfl
  c75 := by kernel_rfl
  c76 := by kernel_rfl
  c80 := by kernel_rfl
  c85 := by kernel_rfl
  c127 := by kernel_rfl
  c143 := by kernel_rfl
  c145 := by kernel_rfl
  c167 := by kernel_rfl
  c168 := by kernel_rfl
  c171 := by kernel_rfl
  c173 := by kernel_rfl
  c175 := by kernel_rfl
  c210 := by kernel_rfl
  c212 := by kernel_rfl
  c213 := by kernel_rfl
  c232 := by kernel_rfl
  c233 := by kernel_rfl }
open Go.RowKit in
/-- strconv.Atoi, AT EVERY STRING THAT SPELLS AN int ('Lib.atoiAll .. = .ok v'; of whatever length: leading zeros count): v, AND NO ERROR. The world: as it was, or with the one new row that '[]byte(..)' lays. (LAID: no walk: one application.) -/
theorem Tryd.strconv_Atoi_ok (s : ByteArray) (hmax : s.size ≤ 9223372036854775806) (v : Int) (h : Lib.atoiAll s.data.toList = .ok v) (w : World) :
    Calls Tryd.prog 65 #[.string s] w fun e w' => e = .returned (.tuple #[.int .i64 v, .nilIface]) ∧ (w' = w ∨ ∃ t, w' = Lib.bytesWorld w 5 t) := Any.strconv_Atoi_ok Tryd.laysC172 s hmax v h w
open Go.RowKit in
/-- strconv.Atoi, AT EVERY STRING THAT IS NO DECIMAL NUMERAL ('.syntax'): 0, AND AN ERROR THAT IS NOT nil: a *NumError in a new block N: {Func: "Atoi", Num: s's bytes, Err: what the variable ErrSyntax holds}. Of what was there nothing has turned. (LAID: no walk: one application.) -/
theorem Tryd.strconv_Atoi_syntax (s : ByteArray) (hlim : s.size ≤ 281474976710656) (h : Lib.atoiAll s.data.toList = Lib.NumEnd.syntax) (ev : Value) (w : World) (hv : w.cell? ⟨1, 0, none⟩ = some ev) (hev : ev = .nilIface ∨ ∃ te pe, ev = .iface te pe) :
    Calls Tryd.prog 65 #[.string s] w fun e w' => ∃ N, e = .returned (.tuple #[.int .i64 (0), .iface 113 (.pointer (some ⟨N, 0, none⟩))]) ∧ w.heap.size ≤ N ∧ w'.heap[N]? = some (.cells #[.string ⟨#[65, 116, 111, 105]⟩, .string s, ev] 127 (0, 0)) ∧ Below w.heap.size w w' := Any.strconv_Atoi_syntax Tryd.laysC172 s hlim h ev w hv hev
open Go.RowKit in
/-- strconv.Atoi, AT EVERY NUMERAL THAT NO int HOLDS ('.range'): THE GREATEST OR THE LEAST int, BY THE SIGN ('Lib.atoiSat'), AND AN ERROR THAT IS NOT nil: a *NumError in a new block N: {Func: "Atoi", Num: s's bytes, Err: what the variable ErrRange holds}. Of what was there nothing has turned. (LAID: no walk: one application.) -/
theorem Tryd.strconv_Atoi_range (s : ByteArray) (hlim : s.size ≤ 281474976710656) (h : Lib.atoiAll s.data.toList = .range) (ev : Value) (w : World) (hv : w.cell? ⟨2, 0, none⟩ = some ev) (hev : ev = .nilIface ∨ ∃ te pe, ev = .iface te pe) :
    Calls Tryd.prog 65 #[.string s] w fun e w' => ∃ N, e = .returned (.tuple #[.int .i64 (Lib.atoiSat s.data.toList), .iface 113 (.pointer (some ⟨N, 0, none⟩))]) ∧ w.heap.size ≤ N ∧ w'.heap[N]? = some (.cells #[.string ⟨#[65, 116, 111, 105]⟩, .string s, ev] 127 (0, 0)) ∧ Below w.heap.size w w' := Any.strconv_Atoi_range Tryd.laysC172 s hlim h ev w hv hev
end Go.Proofs
set_option linter.unusedVariables false
set_option linter.unusedSimpArgs false
set_option maxRecDepth 100000
namespace Go.X
open Go.Proofs.Tryd (prog)
open Go.RowKit Go.Lib Go.Shelf Go.Sort

/-- An append, with what it comes to. -/
theorem wpList_append_run {P : Program} {w : World} {ops : Array Oper} {rest : List Oper} {o : Oper} {a : Act} {Q : Exit → Act → World → Prop} (hgd : o.guard = none) (s x : Operand) (t u : TypeId)
    (ho : o.op = .call { callee := .builtin .append, args := #[s, x], argTypes := #[t, u] }) (v c : Value) (hs : a.eval s = v) (hx : a.eval x = c)
    (h : ∃ v' w', (Builtin.append_ #[t, u] o.type #[v, c]).run P w = .ok v' w' ∧ wpList P ops Q rest (a.put o.dst v') w') : wpList P ops Q (o :: rest) a w := by
  refine wpList_plain hgd fun K hK => ?_
  obtain ⟨v', w', hr, hk⟩ := h
  unfold Oper.wp execOp
  simp only [ho, resolve, invoke, builtin, Sem.run_bind, Sem.run_pure, Result.andThen_ok, List.map_toArray, List.map_cons, List.map_nil, hs, hx, hr]
  exact hK _ _ hk

set_option maxHeartbeats 12800000 in
theorem appU_small (u : Nat) (hu : u < 100) (sv : Value) (w : World) {Q : Ending → World → Prop}
    (h : ∃ v' w', (Builtin.append_ #[61, 9] 61 #[sv, .string ⟨(decDigits u).toArray⟩]).run Go.Proofs.Tryd.prog w = .ok v' w' ∧ Q (.returned v') w') :
    Calls Go.Proofs.Tryd.prog 67 #[sv, .int .u64 u, .int .i64 10] w Q := by
  obtain ⟨v', w', hr, hq⟩ := h
  go_enter Go.Proofs.Tryd.func67, Go.Proofs.Tryd.ntmps67
  go_wp2_with (first
    | (go_at_call 72; refine (Go.Proofs.Tryd.internal_strconv_small u hu _).mono ?_; rintro e w1 ⟨rfl, rfl⟩)
    | (at_builtin; refine wpList_append_run rfl _ _ 61 9 rfl _ _ rfl rfl ⟨v', w', hr, ?_⟩))
  exact hq

/-- The powers of ten stand in the first package-level variable. -/
def PowTab (w : World) : Prop := ∃ t fr, w.heap[0]? = some (.cells (pow10Tab.map fun z => Value.int .u64 z).toArray t fr)
theorem PowTab.is {w : World} (h : PowTab w) (nm : String) (hn : Go.Proofs.Tryd.prog.globalNamed nm = some 0) : TabIs Go.Proofs.Tryd.prog w nm .u64 pow10Tab := by
  obtain ⟨t, fr, h⟩ := h
  unfold TabIs World.var?
  rw [hn, Option.bind_some, h]
theorem PowTab.on {w w' : World} {b : Nat} (h : PowTab w) (hb : 0 < b) (e : Below b w w') : PowTab w' := by
  obtain ⟨t, fr, h⟩ := h
  exact ⟨t, fr, by rw [e.block 0 hb]; exact h⟩
theorem PowTab.alloc {w : World} (h : PowTab w) (o : Obj) : PowTab (w.alloc o) := by
  obtain ⟨t, fr, h⟩ := h
  exact ⟨t, fr, by rw [Below.heap_alloc w o 0 (by have := (Array.getElem?_eq_some_iff.1 h).1; omega)]; exact h⟩

set_option maxHeartbeats 12800000 in
theorem appU_big (u : Nat) (hu : 100 ≤ u) (hu64 : u < 18446744073709551616) (sv : Value) (w : World) (htab : PowTab w) {Q : Ending → World → Prop}
    (h : ∀ W, Below w.heap.size w W → (∀ j c, (Lib.byteCells (decDigits u))[j]? = some c → W.cell? ((⟨w.heap.size, 0, none⟩ : Addr).add j) = some c) →
      ∃ v' w', (Builtin.append_ #[61, 61] 61 #[sv, .slice (some ⟨w.heap.size, 0, none⟩) (nDigits u) 24]).run Go.Proofs.Tryd.prog W = .ok v' w' ∧ Q (.returned v') w') :
    Calls Go.Proofs.Tryd.prog 67 #[sv, .int .u64 u, .int .i64 10] w Q := by
  have hn20 : nDigits u ≤ 20 := by
    have := numDigits_eq u (by omega) hu64
    split at this <;> omega
  have hal : Go.Proofs.Tryd.prog.arrayLen 105 = 24 := by kernel_rfl
  have hsl : ∀ W, (Instr.sliceAt 105 (.pointer (some ⟨w.heap.size, 0, none⟩)) none (some (.int .i64 (nDigits u : Int))) none).run Go.Proofs.Tryd.prog W = .ok (.slice (some ⟨w.heap.size, 0, none⟩) (nDigits u) 24) W := fun W => by
    rw [run_sliceAt_array_h W 105 ⟨w.heap.size, 0, none⟩ (by kernel_rfl) .i64 (nDigits u : Int) (by omega) (by rw [hal]; omega)]
    go_simp
  have hz := holds_zero0 w 105 (nDigits u) (by omega)
  have hfb := Go.Proofs.Tryd.internal_strconv_formatBase10 w.heap.size 0 24 u (Array.replicate (nDigits u) 0) (w.alloc (.cells zeros24 105)) hz (by rw [Array.size_replicate]; exact lt_pow_nDigits u) hu64 (by rw [Array.size_replicate]; omega)
  rw [Array.size_replicate] at hfb
  have HZ := Lib.hid hz
  have iu : (100 : Int) ≤ (u : Int) := by omega
  clear hz hal
  go_enter Go.Proofs.Tryd.func67, Go.Proofs.Tryd.ntmps67
  go_wp2_with (first
    | (go_at_call 73; refine (Go.Proofs.Tryd.internal_strconv_numDigits u (by omega) hu64 _ ((htab.alloc _).is _ (by kernel_rfl))).mono ?_; rintro e w1 ⟨rfl, rfl⟩))
  refine hfb.mono ?_
  rintro e w1 ⟨rfl, k, v', dk, rfl, hF⟩
  have hcells : ∀ j c, (Lib.byteCells (decDigits u))[j]? = some c → ((putRow (fun (b : UInt8) => Value.int .u8 (b.toNat : Int)) (w.alloc (.cells zeros24 105)) w.heap.size 0 dk).drewN k).cell? ((⟨w.heap.size, 0, none⟩ : Addr).add j) = some c := by
    intro j c hj
    have hjl : j < (decDigits u).length := by
      have := (List.getElem?_eq_some_iff.1 hj).1
      rwa [Lib.byteCells_length] at this
    have e5 : (Lib.byteCells (decDigits u))[j]? = some (Value.int .u8 ((decDigits u)[j].toNat : Int)) := by simp [Lib.byteCells, hjl]
    rw [e5] at hj
    cases hj
    have hjn : j < dk.size := by
      rw [hF.size, ← decDigits_length]
      exact hjl
    rw [row_is_numeral hF j hjl, add_plain, World.cell?_drewN]
    exact cell?_putRow (fun (b : UInt8) => Value.int .u8 (b.toNat : Int)) _ w.heap.size 0 _ dk HZ.out (by rw [hF.size, Array.size_replicate]) j hjn
  obtain ⟨os, eo⟩ := fin_at w (.cells zeros24 105) dk k 0
  have hbel : Below w.heap.size w ((putRow (fun (b : UInt8) => Value.int .u8 (b.toNat : Int)) (w.alloc (.cells zeros24 105)) w.heap.size 0 dk).drewN k) := by
    rw [eo]
    exact below_grow w.heap.size w (Nat.le_refl _) k os
  generalize (putRow (fun (b : UInt8) => Value.int .u8 (b.toNat : Int)) (w.alloc (.cells zeros24 105)) w.heap.size 0 dk).drewN k = W at hcells hbel ⊢
  clear eo HZ hfb
  obtain ⟨v2, w2, hr, hq⟩ := h W hbel hcells
  go_wp2_with (at_builtin; refine wpList_append_run rfl _ _ 61 61 rfl _ _ rfl rfl ⟨v2, w2, hr, ?_⟩)
  exact hq
end Go.X
set_option linter.unusedVariables false
set_option linter.unusedSimpArgs false
set_option maxHeartbeats 20000000
set_option maxRecDepth 100000
namespace Go.X
open Go.Proofs.Tryd (prog)
open Go.RowKit

theorem ne_ty {B : Mem} {i j T T' k k' : Nat} {rs rs' : List (List Lf)} (h : B i = some (.cells T rs k)) (h' : B j = some (.cells T' rs' k')) (hT : T ≠ T') : i ≠ j := fun e => by
  rw [e, h'] at h
  simp only [Option.some.injEq, Blk.cells.injEq] at h
  exact hT h.1.symm
def byR (l : List UInt8) : List (List Lf) := l.map fun b => [.int .u8 (b.toNat : Int)]
theorem byR_app (a b : List UInt8) : byR (a ++ b) = byR a ++ byR b := List.map_append
theorem byR_len (a : List UInt8) : (byR a).length = a.length := List.length_map _
theorem byR_ne {a : List UInt8} (h : a ≠ []) : byR a ≠ [] := fun e => h (List.map_eq_nil_iff.1 e)
/-- A buffer of one's own: nil, or a block; and the memory without it. -/
inductive Buf (M : Mem) : Lf → List UInt8 → Mem → Prop
  | nil : Buf M .nils [] M
  | ms {id : Nat} {l : List UInt8} (h : M id = some (.cells 5 (byR l) 0)) : Buf M (.ms id 0 l.length) l (M.del id)
theorem Buf.le {M M0 : Mem} {x : Lf} {l : List UInt8} (h : Buf M x l M0) : M0.le M := by
  cases h with
  | nil => exact Mem.le_refl _
  | ms h => exact fun k bk hk => by rw [Mem.del_app] at hk; split at hk; cases hk; exact hk
theorem app_buf {M M0 : Mem} {x : Lf} {l bs : List UInt8} (hb : Buf M x l M0) {tx : TypeId} {src : AV} (hsrc : ∀ te, tiOf Go.Proofs.Tryd.prog 5 = some te → srcRows Go.Proofs.Tryd.prog M 61 tx 5 te src = some (byR bs)) (hne : bs ≠ []) (hlen : (l ++ bs).length ≤ 1000000000) {K : AV → Mem → Prop}
    (h : ∀ id', (∀ j, id' ≤ j → M j = none) → K (.l (.ms id' 0 (l ++ bs).length)) (M0.set id' (.cells 5 (byR (l ++ bs)) 0))) : @appI Go.Proofs.Tryd.prog M 61 tx (.l x) src ⟨K⟩ := by
  cases hb with
  | nil =>
    refine app_nils _ _ _ _ 5 _ _ ti_61 rfl ti_5 (by kernel_rfl) (by decide) _ (byR bs) (hsrc _ ti_5) ?_ ?_ (fun e => absurd e (byR_ne hne)) (fun _ id' hid => ?_)
    · rw [byR_len]
      rw [List.nil_append] at hlen
      show bs.length * 1 ≤ _
      omega
    · rw [byR_len]
      rw [List.nil_append] at hlen
      omega
    · rw [byR_len]
      exact h id' hid
  | ms hM =>
    rename_i id
    rw [List.length_append] at hlen
    refine app_ms _ _ _ _ 5 _ _ ti_61 rfl ti_5 (by kernel_rfl) (by decide) id l.length _ (rows := byR l) (keep := 0) (byR bs) hM (hsrc _ ti_5) (by rw [byR_len]; exact Nat.le_refl _) (Nat.zero_le _) ?_ ?_ (fun id' hid => ?_)
    · rw [byR_len]
      show (l.length + bs.length) * 1 ≤ _
      omega
    · rw [byR_len]
      omega
    · have := h id' hid
      rw [byR_app, List.length_append] at this
      rw [List.take_of_length_le (by rw [byR_len]; exact Nat.le_refl _), byR_len]
      exact this

/-- Cells of a block that no id names are never written again. -/
theorem rel_frz_out {g : Gh} {M : Mem} {w : World} (h : Rel g M w) {b0 n : Nat} (hnew : ∀ id x, g.blk id = some x → x.1 ≠ b0) (hc : ∀ o, o < n → ∃ v, w.cell? ⟨b0, o, none⟩ = some v) : Ev g w (g.frz b0 n) w ∧ Rel (g.frz b0 n) M w := by
  have e : Ev g w (g.frz b0 n) w := ⟨rfl, rfl, fun _ _ h => h, fun _ _ h => .inl h, fun _ _ _ => rfl, rfl, fun _ _ h => h⟩
  refine ⟨e, ?_⟩
  exact {
    blk := fun i blk hb => (h.blk i blk hb).ev e (fun _ _ => rfl) (fun y hy o ho => by
      rcases ho with ho | ⟨he, _⟩
      · exact ho
      · exact absurd he (hnew i y hy))
    inj := h.inj
    lt := h.lt
    fz := fun b o ho => by
      rcases ho with ho | ⟨rfl, ho⟩
      · exact h.fz b o ho
      · exact hc o ho
    fin := h.fin
    below := h.below
    tab := h.tab }
theorem rel_pow {g : Gh} {M : Mem} {w : World} (h : Rel g M w) (hP : g.P = Go.Proofs.Tryd.prog) : PowTab w := by
  obtain ⟨t, fr, h0⟩ := h.tab.1 (by rw [hP]; exact of_decide_eq_true (by kernel_rfl))
  have h1 : PowTab g.w0 := ⟨t, fr, h0⟩
  exact h1.on (b := g.w0.heap.size) (by have := (Array.getElem?_eq_some_iff.1 h0).1; omega) h.below
theorem digits_conc {g : Gh} {w : World} {b0 : Nat} {l : List UInt8} (hc : ∀ j c, (Lib.byteCells l)[j]? = some c → w.cell? ((⟨b0, 0, none⟩ : Addr).add j) = some c) (cap : Nat) (hcap : l.length ≤ cap) : ConcA (g.frz b0 l.length) w (.l (.sl (byR l))) (.slice (some ⟨b0, 0, none⟩) l.length cap) := by
  refine .l ?_
  have hb : ∀ i : Nat, i < l.length → (Lib.byteCells l)[i]? = some (.int .u8 ((l.getD i 0).toNat : Int)) := fun i hi => by simp [Lib.byteCells, hi, List.getD_eq_getElem?_getD]
  have := Conc.sl (g := g.frz b0 l.length) (w := w) (rows := byR l) (b := b0) (o := 0) (sz := 1) (cap := cap) (fun i => .int .u8 ((l.getD i 0).toNat : Int)) (fun r hr => by
    obtain ⟨x, -, rfl⟩ := List.mem_map.1 hr
    rfl) (by rw [byR_len]; exact hcap) (fun i hi => by
    rw [byR_len, Nat.mul_one] at hi
    have h1 := hc i _ (hb i hi)
    rw [addr_add] at h1
    exact ⟨.inr ⟨rfl, by omega⟩, h1⟩) (fun i j r x hr hx => by
    rw [byR, List.getElem?_map] at hr
    obtain ⟨y, hy, rfl⟩ := Option.map_eq_some_iff.1 hr
    cases j with
    | zero =>
      simp only [List.getElem?_cons_zero, Option.some.injEq] at hx
      subst hx
      have : l.getD i 0 = y := by rw [List.getD_eq_getElem?_getD, hy]; rfl
      rw [Nat.mul_one, Nat.add_zero, this]
      exact .int _ _
    | succ j => simp at hx)
  rwa [byR_len] at this
theorem decDigits_ne (u : Nat) : Lib.decDigits u ≠ [] := fun e => by
  have h1 := Lib.decDigits_length u
  rw [e] at h1
  have h2 : 1 ≤ Lib.nDigits u := by
    rw [Lib.nDigits]
    split <;> omega
  simp at h1
  omega
theorem appU_spec {M M0 : Mem} {x : Lf} {l : List UInt8} (hb : Buf M x l M0) (u : Nat) (hu : u < 18446744073709551616) (hl : l.length ≤ 100000000) : XCalls Go.Proofs.Tryd.prog 67 [.l x, .l (.int .u64 u), .l (.int .i64 10)] M fun r M' =>
    ∃ id', (∀ j, id' ≤ j → M j = none) ∧ r = .l (.ms id' 0 (l ++ Lib.decDigits u).length) ∧ M' = M0.set id' (.cells 5 (byR (l ++ Lib.decDigits u)) 0) := by
  have hnd : (Lib.decDigits u).length ≤ 20 := by
    rw [Lib.decDigits_length]
    by_cases h0 : u < 10
    · rw [Lib.nDigits_small h0]; omega
    · have := Lib.numDigits_eq u (by omega) hu
      split at this <;> omega
  refine ⟨by kernel_rfl, fun g w vs hP hA hR => ?_⟩
  obtain ⟨hsz, hA⟩ := hA
  obtain ⟨sv, c1, c2, rfl⟩ : ∃ a b c, vs = #[a, b, c] := by
    obtain ⟨vl⟩ := vs
    match vl, hsz with
    | [a, b, c], _ => exact ⟨a, b, c, rfl⟩
  have h0 := hA 0 _ _ rfl rfl
  have h1 := hA 1 _ _ rfl rfl
  have h2 := hA 2 _ _ rfl rfl
  obtain rfl : c1 = .int .u64 u := by cases h1 with | l h => cases h; rfl
  obtain rfl : c2 = .int .i64 10 := by cases h2 with | l h => cases h; rfl
  have hlen : (l ++ Lib.decDigits u).length ≤ 1000000000 := by rw [List.length_append]; omega
  have hK : ∀ {tx : TypeId} {src : AV}, (∀ te, tiOf Go.Proofs.Tryd.prog 5 = some te → srcRows Go.Proofs.Tryd.prog M 61 tx 5 te src = some (byR (Lib.decDigits u))) → @appI Go.Proofs.Tryd.prog M 61 tx (.l x) src ⟨fun r M' =>
      ∃ id', (∀ j, id' ≤ j → M j = none) ∧ r = .l (.ms id' 0 (l ++ Lib.decDigits u).length) ∧ M' = M0.set id' (.cells 5 (byR (l ++ Lib.decDigits u)) 0)⟩ := fun hs => app_buf hb hs (decDigits_ne u) hlen fun id' hid => ⟨id', hid, rfl, rfl⟩
  by_cases hs : u < 100
  · refine appU_small u hs sv w ?_
    obtain ⟨c, w', g', v, M', hr, hk, he, hc, hrel⟩ := run_appendA (ty := 61) hP hR h0 (.l (.str ⟨(Lib.decDigits u).toArray⟩)) (N := newK M) (fun F hF => newK_pick hR hF) (hK (tx := 9) (src := .l (.str ⟨(Lib.decDigits u).toArray⟩)) fun te hte => by
      unfold srcRows
      rw [if_neg (by decide)]
      rw [ti_5] at hte
      cases hte
      simp only [ti_9]
      rfl)
    exact ⟨c, w', hr, c, v, g', M', rfl, hk, he, hc, hrel⟩
  · refine appU_big u (by omega) hu sv w (rel_pow hR hP) fun W hbel hcells => ?_
    obtain ⟨e1, hR1⟩ := rel_same hR hbel
    obtain ⟨e2, hR2⟩ := rel_frz_out hR1 (b0 := w.heap.size) (n := (Lib.decDigits u).length) (fun id x hx => by have := hR.lt id x hx; omega) (fun o ho => by
      have := hcells o (.int .u8 ((Lib.decDigits u)[o].toNat : Int)) (by simp [Lib.byteCells, ho])
      rw [addr_add, Nat.zero_add] at this
      exact ⟨_, this⟩)
    have e := e1.trans e2
    have hsrc := digits_conc (g := g) (w := W) hcells 24 (by omega)
    rw [← Lib.decDigits_length]
    obtain ⟨c, w', g', v, M', hr, hk, he, hc, hrel⟩ := run_appendA (ty := 61) (e2.P.trans hP) hR2 (h0.ev e) hsrc (N := newK M) (fun F hF => newK_pick hR2 hF) (hK (tx := 61) (src := .l (.sl (byR (Lib.decDigits u)))) fun te hte => by
      unfold srcRows
      rw [if_pos rfl]
      rw [ti_5] at hte
      cases hte
      exact if_pos fun r hr => by
        obtain ⟨x, -, rfl⟩ := List.mem_map.1 hr
        rfl)
    exact ⟨c, w', hr, c, v, g', M', rfl, hk, e.trans he, hc, hrel⟩
end Go.X
set_option linter.unusedVariables false
set_option linter.unusedSimpArgs false
set_option maxHeartbeats 20000000
set_option maxRecDepth 100000
namespace Go.X
open Go.Proofs.Tryd (prog)
open Go.RowKit

theorem Buf.set {M M0 : Mem} {x : Lf} {l : List UInt8} (h : Buf M x l M0) {i : Nat} (hi : ∀ j, i ≤ j → M j = none) (X : Blk) : Buf (M.set i X) x l (M0.set i X) := by
  cases h with
  | nil => exact .nil
  | ms h =>
    rename_i id
    have hlt := lt_of_bnd hi h
    have e : (M.del id).set i X = (M.set i X).del id := by
      funext k
      simp only [Mem.set_app, Mem.del_app]
      by_cases h1 : i = k
      · rw [if_pos h1, if_neg (by omega), if_pos h1]
      · rw [if_neg h1]
        by_cases h2 : id = k
        · rw [if_pos h2, if_pos h2]
        · rw [if_neg h2, if_neg h2, if_neg h1]
    rw [e]
    exact .ms (by rw [Mem.set_ne _ _ _ _ (by omega)]; exact h)
theorem Buf.bnd {M M0 : Mem} {x : Lf} {l : List UInt8} (h : Buf M x l M0) {i : Nat} (hi : ∀ j, i ≤ j → M j = none) : ∀ j, i ≤ j → M0 j = none := fun j hj => by
  cases hm : M0 j with
  | none => rfl
  | some bk => have := h.le _ _ hm; rw [hi j hj] at this; cases this
theorem wrap_u64 (x : Int) : IntKind.u64.wrap x = x % 18446744073709551616 := rfl
theorem wrap_u64_neg {n : Int} (h0 : -9223372036854775808 ≤ n) (hn : n < 0) : IntKind.u64.wrap (0 - IntKind.u64.wrap n) = (n.natAbs : Int) := by
  rw [wrap_u64]
  try rw [wrap_u64]
  omega
theorem wrap_u64_pos {n : Int} (h1 : n ≤ 9223372036854775807) (hn : ¬ n < 0) : IntKind.u64.wrap n = (n.toNat : Int) := by
  rw [wrap_u64]
  try rw [wrap_u64]
  omega
theorem appI_spec0 {M M0 : Mem} {x : Lf} {l : List UInt8} (hb : Buf M x l M0) (n : Int) (h0 : -9223372036854775808 ≤ n) (h1 : n ≤ 9223372036854775807) (hl : l.length ≤ 10000000) : XCalls Go.Proofs.Tryd.prog 60 [.l x, .l (.int .i64 n), .l (.int .i64 10)] M fun r M' =>
    ∃ id', (∀ j, id' ≤ j → M j = none) ∧ r = .l (.ms id' 0 (l ++ Lib.itoa n).length) ∧ M' = M0.set id' (.cells 5 (byR (l ++ Lib.itoa n)) 0) := by
  refine xcalls_intro (rs := [.tmp 6]) Go.Proofs.Tryd.func60 rfl (by kernel_rfl) rfl rfl (by kernel_rfl) (by simp) ?_
  simp -implicitDefEqProofs (maxSteps := 1000000) (disch := omega) only [↓xsP, ↓vc_seq, xsQ, xsT, xsR, xsD, ↓reduceIte, reduceCtorEq, eq_self, ne_eq, imp_self, forall_const, Nat.reduceEqDiff, Nat.reduceAdd, Nat.reduceSub, Nat.reduceMul, Nat.reduceLT, Nat.reduceLeDiff, Nat.reduceBEq, Nat.reduceDiv, Nat.reduceMod, Int.reduceToNat, Int.reduceNeg, Int.reduceAdd, Int.reduceSub, Int.reduceMul, Int.reduceEq, Int.reduceNe, Int.reduceLT, Int.reduceLE, Int.reduceGT, Int.reduceGE]
  refine condI_prop (fun hn => ?_) (fun hn => ?_)
  · have e : Lib.itoa n = [45] ++ Lib.decDigits n.natAbs := by rw [Lib.itoa, if_pos hn]; rfl
    have hw := wrap_u64_neg h0 hn
    simp -implicitDefEqProofs (maxSteps := 1000000) (disch := omega) only [↓xsP, ↓vc_seq, xsQ, xsT, xsR, xsD, ↓reduceIte, reduceCtorEq, eq_self, ne_eq, imp_self, forall_const, Nat.reduceEqDiff, Nat.reduceAdd, Nat.reduceSub, Nat.reduceMul, Nat.reduceLT, Nat.reduceLeDiff, Nat.reduceBEq, Nat.reduceDiv, Nat.reduceMod, Int.reduceToNat, Int.reduceNeg, Int.reduceAdd, Int.reduceSub, Int.reduceMul, Int.reduceEq, Int.reduceNe, Int.reduceLT, Int.reduceLE, Int.reduceGT, Int.reduceGE]
    refine newI_intro fun idn hidn => ?_
    simp -implicitDefEqProofs (maxSteps := 1000000) (disch := omega) only [↓xsP, ↓vc_seq, xsQ, xsT, xsR, xsD, ↓reduceIte, reduceCtorEq, eq_self, ne_eq, imp_self, forall_const, Nat.reduceEqDiff, Nat.reduceAdd, Nat.reduceSub, Nat.reduceMul, Nat.reduceLT, Nat.reduceLeDiff, Nat.reduceBEq, Nat.reduceDiv, Nat.reduceMod, Int.reduceToNat, Int.reduceNeg, Int.reduceAdd, Int.reduceSub, Int.reduceMul, Int.reduceEq, Int.reduceNe, Int.reduceLT, Int.reduceLE, Int.reduceGT, Int.reduceGE]
    refine app_buf (hb.set hidn _) (bs := [45]) (fun te hte => ?_) (List.cons_ne_nil _ _) (by rw [List.length_append]; simp only [List.length_cons, List.length_nil]; omega) fun id2 hid2 => ?_
    · rw [ti_5] at hte
      cases hte
      unfold srcRows
      rw [if_pos rfl]
      simp only [Mem.set_eq]
      rw [if_pos ⟨trivial, by simp⟩]
      rfl
    obtain ⟨hlt, hid2'⟩ := bnd_new hid2
    have hl2 : (l ++ [45]).length ≤ 100000000 := by rw [List.length_append]; simp only [List.length_cons, List.length_nil]; omega
    obtain ⟨l2, hl2e⟩ : ∃ l2 : List UInt8, l ++ [45] = l2 := ⟨_, rfl⟩
    rw [hl2e] at hl2 ⊢
    simp -implicitDefEqProofs (maxSteps := 1000000) (disch := omega) only [↓xsP, ↓vc_seq, xsQ, xsT, xsR, xsD, ↓reduceIte, reduceCtorEq, eq_self, ne_eq, imp_self, forall_const, Nat.reduceEqDiff, Nat.reduceAdd, Nat.reduceSub, Nat.reduceMul, Nat.reduceLT, Nat.reduceLeDiff, Nat.reduceBEq, Nat.reduceDiv, Nat.reduceMod, Int.reduceToNat, Int.reduceNeg, Int.reduceAdd, Int.reduceSub, Int.reduceMul, Int.reduceEq, Int.reduceNe, Int.reduceLT, Int.reduceLE, Int.reduceGT, Int.reduceGE, hw]
    refine callI_of ((appU_spec (.ms (l := l2) (Mem.set_eq _ id2 _)) n.natAbs (by omega) hl2).mono ?_)
    rintro _ _ ⟨id3, hid3, rfl, rfl⟩
    obtain ⟨hlt3, hid3'⟩ := bnd_new hid3
    obtain ⟨hlt4, hid3''⟩ := bnd_new hid3'
    simp -implicitDefEqProofs (maxSteps := 1000000) (disch := omega) only [↓xsP, ↓vc_seq, xsQ, xsT, xsR, xsD, ↓reduceIte, reduceCtorEq, eq_self, ne_eq, imp_self, forall_const, Nat.reduceEqDiff, Nat.reduceAdd, Nat.reduceSub, Nat.reduceMul, Nat.reduceLT, Nat.reduceLeDiff, Nat.reduceBEq, Nat.reduceDiv, Nat.reduceMod, Int.reduceToNat, Int.reduceNeg, Int.reduceAdd, Int.reduceSub, Int.reduceMul, Int.reduceEq, Int.reduceNe, Int.reduceLT, Int.reduceLE, Int.reduceGT, Int.reduceGE]
    have hM0 := hb.bnd hidn
    refine fin_ok (M' := M0.set id3 (.cells 5 (byR (l ++ Lib.itoa n)) 0)) ?_ ⟨id3, fun j hj => hid2' j (by omega), by rw [e, ← List.append_assoc, hl2e], rfl⟩
    rw [e, ← List.append_assoc, hl2e]
    intro k bk hk
    rw [Mem.set_app] at hk ⊢
    by_cases h : id3 = k
    · rw [if_pos h] at hk ⊢
      exact hk
    · rw [if_neg h] at hk ⊢
      have := lt_of_bnd hM0 hk
      rw [Mem.del_ne _ _ _ (by omega), Mem.set_ne _ _ _ _ (by omega), Mem.set_ne _ _ _ _ (by omega)]
      exact hk
  · have e : Lib.itoa n = Lib.decDigits n.toNat := by rw [Lib.itoa, if_neg hn]
    have hw := wrap_u64_pos h1 hn
    simp -implicitDefEqProofs (maxSteps := 1000000) (disch := omega) only [↓xsP, ↓vc_seq, xsQ, xsT, xsR, xsD, ↓reduceIte, reduceCtorEq, eq_self, ne_eq, imp_self, forall_const, Nat.reduceEqDiff, Nat.reduceAdd, Nat.reduceSub, Nat.reduceMul, Nat.reduceLT, Nat.reduceLeDiff, Nat.reduceBEq, Nat.reduceDiv, Nat.reduceMod, Int.reduceToNat, Int.reduceNeg, Int.reduceAdd, Int.reduceSub, Int.reduceMul, Int.reduceEq, Int.reduceNe, Int.reduceLT, Int.reduceLE, Int.reduceGT, Int.reduceGE, hw]
    refine callI_of ((appU_spec hb n.toNat (by omega) (by omega)).mono ?_)
    rintro _ _ ⟨id3, hid3, rfl, rfl⟩
    simp -implicitDefEqProofs (maxSteps := 1000000) (disch := omega) only [↓xsP, ↓vc_seq, xsQ, xsT, xsR, xsD, ↓reduceIte, reduceCtorEq, eq_self, ne_eq, imp_self, forall_const, Nat.reduceEqDiff, Nat.reduceAdd, Nat.reduceSub, Nat.reduceMul, Nat.reduceLT, Nat.reduceLeDiff, Nat.reduceBEq, Nat.reduceDiv, Nat.reduceMod, Int.reduceToNat, Int.reduceNeg, Int.reduceAdd, Int.reduceSub, Int.reduceMul, Int.reduceEq, Int.reduceNe, Int.reduceLT, Int.reduceLE, Int.reduceGT, Int.reduceGE]
    exact fin_ok (Mem.le_refl _) ⟨id3, hid3, by rw [e], by rw [e]⟩
theorem appI_spec {M M0 : Mem} {x : Lf} {l : List UInt8} (hb : Buf M x l M0) (n : Int) (h0 : -9223372036854775808 ≤ n) (h1 : n ≤ 9223372036854775807) (hl : l.length ≤ 10000000) : XCalls Go.Proofs.Tryd.prog 48 [.l x, .l (.int .i64 n), .l (.int .i64 10)] M fun r M' =>
    ∃ id', (∀ j, id' ≤ j → M j = none) ∧ r = .l (.ms id' 0 (l ++ Lib.itoa n).length) ∧ M' = M0.set id' (.cells 5 (byR (l ++ Lib.itoa n)) 0) := by
  refine xcalls_intro (rs := [.tmp 6]) Go.Proofs.Tryd.func48 rfl (by kernel_rfl) rfl rfl (by kernel_rfl) (by simp) ?_
  simp -implicitDefEqProofs (maxSteps := 1000000) (disch := omega) only [↓xsP, ↓vc_seq, xsQ, xsT, xsR, xsD, ↓reduceIte, reduceCtorEq, eq_self, ne_eq, imp_self, forall_const, Nat.reduceEqDiff, Nat.reduceAdd, Nat.reduceSub, Nat.reduceMul, Nat.reduceLT, Nat.reduceLeDiff, Nat.reduceBEq, Nat.reduceDiv, Nat.reduceMod, Int.reduceToNat, Int.reduceNeg, Int.reduceAdd, Int.reduceSub, Int.reduceMul, Int.reduceEq, Int.reduceNe, Int.reduceLT, Int.reduceLE, Int.reduceGT, Int.reduceGE]
  refine callI_of ((appI_spec0 hb n h0 h1 hl).mono ?_)
  rintro _ _ ⟨id3, hid3, rfl, rfl⟩
  simp -implicitDefEqProofs (maxSteps := 1000000) (disch := omega) only [↓xsP, ↓vc_seq, xsQ, xsT, xsR, xsD, ↓reduceIte, reduceCtorEq, eq_self, ne_eq, imp_self, forall_const, Nat.reduceEqDiff, Nat.reduceAdd, Nat.reduceSub, Nat.reduceMul, Nat.reduceLT, Nat.reduceLeDiff, Nat.reduceBEq, Nat.reduceDiv, Nat.reduceMod, Int.reduceToNat, Int.reduceNeg, Int.reduceAdd, Int.reduceSub, Int.reduceMul, Int.reduceEq, Int.reduceNe, Int.reduceLT, Int.reduceLE, Int.reduceGT, Int.reduceGE]
  exact fin_ok (Mem.le_refl _) ⟨id3, hid3, rfl, rfl⟩
def txt (l : List UInt8) : Lf := .str ⟨l.toArray⟩
theorem itoa_spec (n : Int) (h0 : -9223372036854775808 ≤ n) (h1 : n ≤ 9223372036854775807) (M : Mem) : XCalls Go.Proofs.Tryd.prog 49 [.l (.int .i64 n)] M fun r M' => r = .l (txt (Lib.itoa n)) ∧ M' = M := by
  refine ⟨by kernel_rfl, fun g w vs hP hA hR => ?_⟩
  obtain ⟨hsz, hA⟩ := hA
  obtain ⟨c1, rfl⟩ : ∃ a, vs = #[a] := by
    obtain ⟨vl⟩ := vs
    match vl, hsz with
    | [a], _ => exact ⟨a, rfl⟩
  have h0' := hA 0 _ _ rfl rfl
  obtain rfl : c1 = .int .i64 n := by cases h0' with | l h => cases h; rfl
  refine (Go.Proofs.Tryd.strconv_Itoa n h0 h1 w ((rel_pow hR hP).is _ (by kernel_rfl))).mono ?_
  rintro e w' ⟨rfl, k, os, rfl⟩
  obtain ⟨e1, hR1⟩ := rel_same hR (Lib.below_grow w.heap.size w (Nat.le_refl _) k os)
  exact ⟨_, _, g, M, rfl, ⟨rfl, rfl⟩, e1, .l (.str _), hR1⟩
end Go.X
set_option linter.unusedVariables false
set_option linter.unusedSimpArgs false
set_option maxHeartbeats 20000000
set_option maxRecDepth 100000
namespace Go.X
open Go.Proofs.Tryd (prog)
open Go.RowKit

theorem ArgsR.rsd {g : Gh} {w : World} {args : List AV} {vs : Array Value} (r : Nat → Prop) (h : ArgsR g w args vs) : ArgsR (g.rsd r) w args vs := ⟨h.1, fun i x v a b => (h.2 i x v a b).rsd r⟩
theorem updE_app (M : Mem) (a b : Eff) : updE M (a ++ b) = updE (updE M a) b := by
  induction a generalizing M with
  | nil => rfl
  | cons p a ih =>
    obtain ⟨x, o⟩ := p
    cases o with
    | none => rw [List.cons_append, updE_none, updE_none, ih]
    | some b' => rw [List.cons_append, updE_some, updE_some, ih]
theorem updE_dels (M : Mem) (ds : List Nat) : updE M (ds.map fun d => (d, none)) = delL M ds := by
  induction ds generalizing M with
  | nil => rfl
  | cons d ds ih => rw [List.map_cons, updE_none, delL_cons, ih]
theorem delL_none {M : Mem} {ds : List Nat} {i : Nat} (h : M i = none) : delL M ds i = none := by
  cases hm : delL M ds i with
  | none => rfl
  | some b => have := (delL_some hm).2; rw [h] at this; cases this
theorem wcall_new {P : Program} {f : FuncId} {args : List AV} {M : Mem} {nid : Nat} {C : AV → Eff → Prop} (n : Nat) (B : Blk) (ds : List Nat) (h : ∀ M', M.le M' → XCalls P f args M' fun r M'' => ∃ id', (∀ j, id' ≤ j → M' j = none) ∧ r = .l (.ms id' 0 n) ∧ ((delL M' ds).set id' B).le M'')
    (hc : C (.l (.ms nid 0 n)) ((ds.map fun d => (d, none)) ++ [(nid, some B)])) : @wcallI P f args M nid ⟨C⟩ := by
  refine ⟨_, _, fun M' hle hn => ⟨(h M' hle).1, fun g w vs hP hA hR hN => ?_⟩, hc⟩
  obtain ⟨id, h1, h2, h3, h4⟩ := hN (fun i => i = nid) rfl
  subst h4
  have hR1 := hR.rsd (fun i => g.res i ∨ i = id) (by
    obtain ⟨m, hm⟩ := hR.fin
    refine ⟨max m (id + 1), fun i hi => ?_⟩
    rintro (h | h)
    · exact (hm i (by omega)).2.2 h
    · omega)
  refine ((h M' hle).2 (g.rsd fun i => g.res i ∨ i = id) w vs hP (hA.rsd _) hR1).mono ?_
  rintro e w' ⟨rv, v, g', M'', he, ⟨id', hid, rfl, hle2⟩, hev, hcv, hrel⟩
  have hfree : g'.blk id = none := hev.rsv id (.inr rfl) h1
  have hrel2 : Rel (g'.rsd g.res) ((delL M' ds).set id' B) w' := (hrel.rsd g.res (by
    obtain ⟨m, hm⟩ := hR.fin
    exact ⟨m, fun i hi => (hm i hi).2.2⟩)).le hle2
  have hev2 : Ev g w (g'.rsd g.res) w' := ⟨hev.w0, hev.P, hev.blk, hev.fz, hev.cell, rfl, fun i hr hb => hev.rsv i (.inl hr) hb⟩
  cases hcv with
  | l hcv =>
    cases hcv with
    | ms hx hl1 hl2 =>
      rename_i b sz cr cap
      have hne : id' ≠ id := fun e => by rw [e, hfree] at hx; cases hx
      obtain ⟨e3, r3⟩ := rel_rename hrel2 (id := id') (id' := id) hfree (by rw [Mem.set_ne _ _ _ _ hne]; exact delL_none h2) h3 hx (Mem.set_eq _ _ _)
      refine ⟨_, _, _, _, he, ⟨rfl, Mem.le_refl _⟩, hev2.trans e3, .l (.ms (Gh.put_same _ _ _) hl1 hl2), r3.le ?_⟩
      rw [updE_app, updE_dels, updE_some, updE_nil]
      intro k bk hk
      rw [Mem.set_app] at hk ⊢
      by_cases h : id = k
      · rw [if_pos h] at hk ⊢
        exact hk
      · rw [if_neg h] at hk ⊢
        have hk' : id' ≠ k := fun e => by
          subst e
          rw [delL_none (hid _ (Nat.le_refl _))] at hk
          cases hk
        rw [Mem.del_ne _ _ _ hk', Mem.set_ne _ _ _ _ hk']
        exact hk

def IntOk' (n : Int) : Prop := -9223372036854775808 ≤ n ∧ n ≤ 9223372036854775807
def AllOk (s : List Pr) : Prop := ∀ p ∈ s, IntOk' p.key ∧ IntOk' p.val
theorem bytes_byR : ∀ l : List UInt8, bytesOf (byR l) = some l
  | [] => rfl
  | b :: l => by
    have ih := bytes_byR l
    rw [byR] at ih ⊢
    have hb : b.toNat < 256 := b.toNat_lt
    rw [List.map_cons, bytesOf, if_pos (by omega), ih, Option.map_some]
    congr 2
    rw [Int.toNat_natCast]
    exact UInt8.ofNat_toNat
end Go.X
set_option linter.unusedVariables false
set_option linter.unusedSimpArgs false
set_option maxRecDepth 100000
namespace Go.X

def dval (l : List UInt8) : Nat := l.foldl (fun a c => a * 10 + (c.toNat - 48)) 0
theorem dval_app (a : List UInt8) (c : UInt8) : dval (a ++ [c]) = dval a * 10 + (c.toNat - 48) := by simp [dval]
theorem dig_toNat {k : Nat} (h : k < 10) : (UInt8.ofNat (48 + k)).toNat = 48 + k := by
  rw [UInt8.toNat_ofNat']
  omega
theorem dval_dec (u : Nat) : dval (Lib.decDigits u) = u := by
  induction u using Nat.strongRecOn with
  | _ u ih =>
    rw [Lib.decDigits]
    split
    · rename_i h
      simp only [dval, List.foldl_cons, List.foldl_nil]
      rw [dig_toNat h]
      omega
    · rename_i h
      rw [dval_app, ih (u / 10) (by omega), dig_toNat (by omega)]
      omega
theorem dec_D (u : Nat) : ∀ c ∈ Lib.decDigits u, 48 ≤ c.toNat ∧ c.toNat ≤ 57 := by
  induction u using Nat.strongRecOn with
  | _ u ih =>
    rw [Lib.decDigits]
    split
    · rename_i h
      intro c hc
      rw [List.mem_singleton.1 hc, dig_toNat h]
      omega
    · rename_i h
      intro c hc
      rcases List.mem_append.1 hc with hc | hc
      · exact ih (u / 10) (by omega) c hc
      · rw [List.mem_singleton.1 hc, dig_toNat (by omega)]
        omega
theorem dec_inj {u v : Nat} (h : Lib.decDigits u = Lib.decDigits v) : u = v := by rw [← dval_dec u, h, dval_dec]
theorem itoa_inj {m n : Int} (h : Lib.itoa m = Lib.itoa n) : m = n := by
  have hne : ∀ u v, (45 :: Lib.decDigits u : List UInt8) ≠ Lib.decDigits v := fun u v e => by
    have := (dec_D v 45 (by rw [← e]; simp)).1
    simp at this
  rw [Lib.itoa, Lib.itoa] at h
  split at h
  · split at h
    · have := dec_inj (List.cons.inj h).2
      omega
    · exact absurd h (hne _ _)
  · split at h
    · exact absurd h.symm (hne _ _)
    · have := dec_inj h
      omega
end Go.X
set_option linter.unusedVariables false
set_option linter.unusedSimpArgs false
set_option maxRecDepth 100000
namespace Go.X
open Go.Proofs.Tryd (prog)
open Go.RowKit Go.ChangeShapes Go.WideShapes Go.ChangeAt Go.ChangeMaps

def NdOk (x : Nd) : Prop := x.pairs.length ≤ 8796093022200 ∧ IntOk x.key ∧ IntOk x.stat ∧ ∀ p ∈ x.pairs, IntOk p.key ∧ IntOk p.val
theorem o_ndA : Opens Go.Proofs.Tryd.prog 46 fun ls => ∃ x : Nd, ls = x.row ∧ NdOk x := by
  refine (opens_tys (ts := [4, 3, 3, 3, 44, 3]) (by kernel_rfl) [IsB, IsIr, IsI, IsI, _, IsIr] ⟨o_b (by kernel_rfl), o_ir (by kernel_rfl), o_i (by kernel_rfl), o_i (by kernel_rfl), o_prsA, o_ir (by kernel_rfl), trivial⟩).mono ?_
  rintro ls ⟨a, b, rfl, ⟨x, rfl⟩, c, d, rfl, ⟨y, rfl, hy⟩, e, f, rfl, ⟨z, rfl⟩, g, h, rfl, ⟨u, rfl⟩, i, j, rfl, ⟨ps, rfl, hl, hp⟩, k, l, rfl, ⟨v, rfl, hv⟩, rfl⟩
  exact ⟨⟨x, y, z, u, ps, v⟩, rfl, hl, hy, hv, hp⟩
theorem o_ndsA : Opens Go.Proofs.Tryd.prog 22 fun ls => ∃ ns : List Nd, ls = [.sl (ns.map Nd.row)] ∧ ns.length ≤ big ∧ ∀ x ∈ ns, NdOk x := by
  refine (opens_slice (by kernel_rfl) o_ndA (of_decide_eq_true (by kernel_rfl))).mono ?_
  rintro ls ⟨rows, rfl, hr, hb⟩
  obtain ⟨l, rfl, hl⟩ := rows_map hr
  exact ⟨l, rfl, by simpa using len_of (of_decide_eq_true (by kernel_rfl)) hb, hl⟩
def TreeOk (t : Int × List Nd) : Prop := t.2.length ≤ big ∧ ∀ x ∈ t.2, NdOk x
theorem o_treeA : Opens Go.Proofs.Tryd.prog 24 fun ls => ∃ t : Int × List Nd, ls = [.int .i64 t.1, .sl (t.2.map Nd.row)] ∧ TreeOk t := by
  refine (opens_tys (ts := [3, 22]) (by kernel_rfl) [IsI, _] ⟨o_i (by kernel_rfl), o_ndsA, trivial⟩).mono ?_
  rintro ls ⟨a, b, rfl, ⟨x, rfl⟩, c, d, rfl, ⟨ns, rfl, hl, hn⟩, rfl⟩
  exact ⟨(x, ns), rfl, hl, hn⟩
section
variable {H : Type} {enc : TypeId × Value → H} {W : World} {base : Nat} {v : Value} {d : DataW H} {p : List MemPlace}
theorem arg_strA (hok : Value.okWide Go.Proofs.Tryd.prog W .any base 9 v) (h : DataW.Trod enc Go.Proofs.Tryd.prog W 0 (fun _ => true) true 9 v d p) (hw : ∀ n ∈ d.weights Go.Proofs.Tryd.prog 9, n ≤ reachBytes) :
    ∃ l : List UInt8, ConcA (g0 Go.Proofs.Tryd.prog W) W (.l (txt l)) v := by
  obtain ⟨s, rfl, _⟩ := open_string (by kernel_rfl) hok h
  refine ⟨s.data.toList, .l ?_⟩
  have e : txt s.data.toList = .str s := by rw [txt]
  rw [e]
  exact .str s
theorem arg_treeA (hok : Value.okWide Go.Proofs.Tryd.prog W .any base 24 v) (h : DataW.Trod enc Go.Proofs.Tryd.prog W 0 (fun _ => true) true 24 v d p) (hw : ∀ n ∈ d.weights Go.Proofs.Tryd.prog 24, n ≤ reachBytes) :
    ∃ t : Int × List Nd, ConcA (g0 Go.Proofs.Tryd.prog W) W (trA t.1 t.2) v ∧ TreeOk t := by
  obtain ⟨fs, hu⟩ : ∃ fs, Go.Proofs.Tryd.prog.underlying 24 = some (.struct fs) := struct_of (by kernel_rfl)
  obtain ⟨ls, h1, t, rfl, h2⟩ := arg_agg hu o_treeA hok h hw
  exact ⟨t, h1, h2⟩
end
end Go.X
set_option linter.unusedVariables false
set_option linter.unusedSimpArgs false
set_option maxRecDepth 100000
namespace Go.X

inductive Tr where
  | leaf (ps : List Pr) (st : Int)
  | fork (key : Int) (l r : Tr)
  deriving Inhabited
def Tr.size : Tr → Nat
  | .leaf _ _ => 1
  | .fork _ l r => 1 + l.size + r.size
theorem Tr.size_pos (T : Tr) : 1 ≤ T.size := by cases T <;> simp [Tr.size] <;> omega
def leafN (ps : List Pr) (st : Int) : Nd := ⟨false, 0, 0, 0, ps, st⟩
def forkN (k l r : Int) : Nd := ⟨true, k, l, r, [], 0⟩
inductive Hang (ns : List Nd) : Int → Tr → List Nat → Prop
  | leaf {i : Nat} {ps : List Pr} {st : Int} (hi : i < ns.length) (h : ns.getD i default = leafN ps st) : Hang ns (i : Int) (.leaf ps st) [i]
  | fork {i : Nat} {k l r : Int} {L R : Tr} {pl pr : List Nat} (hi : i < ns.length) (h : ns.getD i default = forkN k l r) (hl : Hang ns l L pl) (hr : Hang ns r R pr) : Hang ns (i : Int) (.fork k L R) (i :: (pl ++ pr))
def Wf : Tr → Ks → Prop
  | .leaf ps st, k => Rises ps ∧ -1000000 ≤ st ∧ st ≤ 1000000 ∧ ∀ p ∈ ps, k.has p.key = true
  | .fork x l r, k => k.has x = true ∧ ¬ (k.isLeast = true ∧ x = k.least) ∧ Wf l (k.lo x) ∧ Wf r (k.hi x)
theorem Hang.len {ns : List Nd} {a : Int} {T : Tr} {pl : List Nat} (h : Hang ns a T pl) : pl.length = T.size := by
  induction h with
  | leaf _ _ => rfl
  | fork _ _ _ _ h1 h2 => simp [Tr.size, h1, h2]; omega
theorem Hang.lt {ns : List Nd} {a : Int} {T : Tr} {pl : List Nat} (h : Hang ns a T pl) : ∀ j ∈ pl, j < ns.length := by
  induction h with
  | leaf hi _ => intro j hj; simp at hj; omega
  | fork hi _ _ _ h1 h2 =>
    intro j hj
    rcases List.mem_cons.1 hj with rfl | hj
    · exact hi
    · rcases List.mem_append.1 hj with hj | hj
      · exact h1 j hj
      · exact h2 j hj
theorem Hang.uniq {ns : List Nd} {a : Int} {T : Tr} {pl : List Nat} (h : Hang ns a T pl) : ∀ {T' : Tr} {pl' : List Nat}, Hang ns a T' pl' → T = T' ∧ pl = pl' := by
  induction h with
  | @leaf i ps st hi h =>
    intro T' pl' h'
    generalize ha : (i : Int) = a at h'
    cases h' with
    | @leaf j ps' st' hj h' =>
      obtain rfl : i = j := by omega
      rw [h] at h'
      simp only [leafN, Nd.mk.injEq, true_and] at h'
      rw [h'.1, h'.2]
      exact ⟨rfl, rfl⟩
    | @fork j k l r L R pl pr hj h' _ _ =>
      obtain rfl : i = j := by omega
      rw [h] at h'
      simp [leafN, forkN] at h'
  | @fork i k l r L R pl pr hi h hl hr ihl ihr =>
    intro T' pl' h'
    generalize ha : (i : Int) = a at h'
    cases h' with
    | @leaf j ps' st' hj h' =>
      obtain rfl : i = j := by omega
      rw [h] at h'
      simp [leafN, forkN] at h'
    | @fork j k' l' r' L' R' pl' pr' hj h' h1 h2 =>
      obtain rfl : i = j := by omega
      rw [h] at h'
      simp only [forkN, Nd.mk.injEq, true_and, and_true] at h'
      obtain ⟨rfl, rfl, rfl⟩ := h'
      obtain ⟨rfl, rfl⟩ := ihl h1
      obtain ⟨rfl, rfl⟩ := ihr h2
      exact ⟨rfl, rfl⟩
/-- Places are met. -/
def marks (m : List Bool) (pl : List Nat) : List Bool := pl.foldl (fun m i => m.set i true) m
theorem marks_cons (m : List Bool) (i : Nat) (pl : List Nat) : marks m (i :: pl) = marks (m.set i true) pl := rfl
theorem marks_app (m : List Bool) (p q : List Nat) : marks m (p ++ q) = marks (marks m p) q := by simp [marks, List.foldl_append]
theorem marks_get {m : List Bool} {pl : List Nat} {j : Nat} (hj : j ∉ pl) : (marks m pl).getD j false = m.getD j false := by
  induction pl generalizing m with
  | nil => rfl
  | cons i pl ih =>
    rw [List.mem_cons, not_or] at hj
    rw [marks_cons, ih hj.2]
    simp only [List.getD_eq_getElem?_getD]
    rw [List.getElem?_set_ne (Ne.symm hj.1)]
theorem marks_len (m : List Bool) (pl : List Nat) : (marks m pl).length = m.length := by
  induction pl generalizing m with
  | nil => rfl
  | cons i pl ih => rw [marks_cons, ih, List.length_set]
theorem marks_in {m : List Bool} {pl : List Nat} {j : Nat} (hj : j ∈ pl) (hl : j < m.length) : (marks m pl).getD j false = true := by
  induction pl generalizing m with
  | nil => cases hj
  | cons i pl ih =>
    rw [marks_cons]
    by_cases h : j ∈ pl
    · exact ih h (by rw [List.length_set]; exact hl)
    · rcases List.mem_cons.1 hj with rfl | h'
      · rw [marks_get h]
        simp [List.getD_eq_getElem?_getD, hl]
      · exact absurd h' h
theorem leafOk_iff {x : Nd} {k : Ks} (hr : x.route = false) : LeafOk x k ↔ ∃ ps st, x = leafN ps st ∧ Wf (.leaf ps st) k := by
  obtain ⟨ro, ky, l, r, ps, st⟩ := x
  simp only at hr
  subst hr
  constructor
  · rintro ⟨h1, h2, h3, h4, h5, h6, h7⟩
    simp only at h1 h2 h3
    subst h1; subst h2; subst h3
    exact ⟨ps, st, rfl, h4, h5, h6, h7⟩
  · rintro ⟨ps', st', h, h4, h5, h6, h7⟩
    simp only [leafN, Nd.mk.injEq, true_and] at h
    obtain ⟨rfl, rfl, rfl, rfl, rfl⟩ := h
    exact ⟨rfl, rfl, rfl, h4, h5, h6, h7⟩
theorem forkOk_iff {x : Nd} {k : Ks} (hr : x.route = true) : ForkOk x k ↔ x = forkN x.key x.left x.right ∧ k.has x.key = true ∧ ¬ (k.isLeast = true ∧ x.key = k.least) := by
  obtain ⟨ro, ky, l, r, ps, st⟩ := x
  simp only at hr
  subst hr
  simp only [ForkOk, forkN, Nd.mk.injEq, true_and, and_assoc]
theorem mayS_sound (ns : List Nd) : ∀ (f : Nat) (m : List Bool) (n : Int) (a : Int) (k : Ks), m.length = ns.length → (mayS ns f (m, n) a k).1 = true →
    ∃ T pl, Hang ns a T pl ∧ Wf T k ∧ pl.Nodup ∧ (∀ j ∈ pl, m.getD j false = false) ∧ mayS ns f (m, n) a k = (true, (marks m pl, n + T.size))
  | 0, m, n, a, k, _, h => by cases h
  | f + 1, m, n, a, k, hm, h => by
    rw [mayS] at h ⊢
    split at h
    · cases h
    · rename_i hg
      rw [if_neg hg]
      simp only [not_or, Bool.not_eq_true] at hg
      obtain ⟨g1, g2, g3⟩ := hg
      obtain ⟨i, rfl⟩ := Int.eq_ofNat_of_zero_le (show 0 ≤ a by omega)
      simp only [Int.toNat_natCast] at h g3 ⊢
      have hi : i < ns.length := by omega
      obtain ⟨x, hx⟩ : ∃ x, ns.getD i default = x := ⟨_, rfl⟩
      rw [hx] at h ⊢
      split at h
      · rename_i hr
        rw [if_pos hr]
        simp only at h
        obtain ⟨ps, st, rfl, hw⟩ := (leafOk_iff hr).1 (bof_iff.1 h)
        refine ⟨.leaf ps st, [i], .leaf hi hx, hw, by simp, fun j hj => ?_, ?_⟩
        · rw [List.mem_singleton.1 hj]; exact g3
        · rw [h]; rfl
      · rename_i hr
        rw [if_neg hr]
        have hr' : x.route = true := by simpa using hr
        split at h
        · cases h
        · rename_i hf
          rw [if_neg hf]
          have hf' : ForkOk x k := bof_iff.1 (by simpa using hf)
          obtain ⟨hx2, hh, hnl⟩ := (forkOk_iff hr').1 hf'
          split at h
          · rename_i h1
            rw [if_pos h1]
            obtain ⟨L, pl, hL, wL, nL, uL, eL⟩ := mayS_sound ns f (m.set i true) (n + 1) x.left (k.lo x.key) (by rw [List.length_set]; exact hm) h1
            rw [eL] at h ⊢
            simp only at h ⊢
            obtain ⟨R, pr, hR, wR, nR, uR, eR⟩ := mayS_sound ns f (marks (m.set i true) pl) (n + 1 + L.size) x.right (k.hi x.key) (by rw [marks_len, List.length_set]; exact hm) h
            have him : i < (m.set i true).length := by rw [List.length_set]; omega
            have hiL : i ∉ pl := fun hc => by
              have := uL i hc
              simp [List.getD_eq_getElem?_getD, show i < m.length by omega] at this
            have hiR : i ∉ pr := fun hc => by
              have := uR i hc
              rw [marks_get hiL] at this
              simp [List.getD_eq_getElem?_getD, show i < m.length by omega] at this
            have hset : ∀ j, j ≠ i → (m.set i true).getD j false = m.getD j false := fun j hj => by
              simp only [List.getD_eq_getElem?_getD]
              rw [List.getElem?_set_ne (Ne.symm hj)]
            have hLR : ∀ j ∈ pl, j ∉ pr := fun j h1 h2 => by
              have := uR j h2
              rw [marks_in h1 (by rw [List.length_set, hm]; exact hL.lt j h1)] at this
              cases this
            refine ⟨.fork x.key L R, i :: (pl ++ pr), .fork hi (hx.trans hx2) hL hR, ⟨hh, hnl, wL, wR⟩, ?_, fun j hj => ?_, ?_⟩
            · rw [List.nodup_cons, List.nodup_append, List.mem_append, not_or]
              exact ⟨⟨hiL, hiR⟩, nL, nR, fun a ha b hb e => hLR a ha (e ▸ hb)⟩
            · rcases List.mem_cons.1 hj with rfl | hj
              · exact g3
              · rcases List.mem_append.1 hj with hj | hj
                · rw [← hset j (fun e => hiL (e ▸ hj))]
                  exact uL j hj
                · rw [← hset j (fun e => hiR (e ▸ hj)), ← marks_get (pl := pl) (fun h => hLR j h hj)]
                  exact uR j hj
            · rw [eR, marks_cons, marks_app]
              simp only [Tr.size, Prod.mk.injEq, true_and]
              omega
          · cases h
theorem mayS_complete (ns : List Nd) : ∀ {a : Int} {T : Tr} {pl : List Nat}, Hang ns a T pl → ∀ (f : Nat) (m : List Bool) (n : Int) (k : Ks), m.length = ns.length → T.size ≤ f → Wf T k → pl.Nodup → (∀ j ∈ pl, m.getD j false = false) →
    mayS ns f (m, n) a k = (true, (marks m pl, n + T.size)) := by
  intro a T pl h
  induction h with
  | @leaf i ps st hi h =>
    intro f m n k hm hf hw hn hu
    obtain ⟨f, rfl⟩ : ∃ g, f = g + 1 := ⟨f - 1, by simp [Tr.size] at hf; omega⟩
    have hg : ¬ ((i : Int) < 0 ∨ (ns.length : Int) ≤ i ∨ m.getD i false = true) := by
      rintro (h | h | h)
      · omega
      · omega
      · rw [hu i (by simp)] at h; cases h
    rw [mayS, Int.toNat_natCast, if_neg hg]
    simp only [h]
    rw [if_pos (show (leafN ps st).route = false from rfl), bof_true ((leafOk_iff rfl).2 ⟨ps, st, rfl, hw⟩)]
    rfl
  | @fork i key l r L R pl pr hi h hL hR ihl ihr =>
    intro f m n k hm hf hw hn hu
    obtain ⟨f, rfl⟩ : ∃ g, f = g + 1 := ⟨f - 1, by simp [Tr.size] at hf; omega⟩
    obtain ⟨w1, w2, w3, w4⟩ := hw
    have hg : ¬ ((i : Int) < 0 ∨ (ns.length : Int) ≤ i ∨ m.getD i false = true) := by
      rintro (h | h | h)
      · omega
      · omega
      · rw [hu i (by simp)] at h; cases h
    rw [List.nodup_cons, List.nodup_append, List.mem_append, not_or] at hn
    obtain ⟨⟨hiL, hiR⟩, nL, nR, hLR⟩ := hn
    have hset : ∀ j, j ≠ i → (m.set i true).getD j false = m.getD j false := fun j hj => by
      simp only [List.getD_eq_getElem?_getD]
      rw [List.getElem?_set_ne (Ne.symm hj)]
    simp only [Tr.size] at hf
    have e1 := ihl f (m.set i true) (n + 1) (k.lo key) (by rw [List.length_set]; exact hm) (by omega) w3 nL (fun j hj => by rw [hset j (fun e => hiL (e ▸ hj))]; exact hu j (by simp [hj]))
    have e2 := ihr f (marks (m.set i true) pl) (n + 1 + L.size) (k.hi key) (by rw [marks_len, List.length_set]; exact hm) (by omega) w4 nR (fun j hj => by rw [marks_get (fun h => hLR j h j hj rfl), hset j (fun e => hiR (e ▸ hj))]; exact hu j (by simp [hj]))
    rw [mayS, Int.toNat_natCast, if_neg hg]
    simp only [h]
    rw [if_neg (show ¬ (forkN key l r).route = false by simp [forkN]), if_neg (show ¬ bof (ForkOk (forkN key l r) k) = false by rw [bof_true ((forkOk_iff (x := forkN key l r) rfl).2 ⟨rfl, w1, w2⟩)]; decide)]
    rw [show mayS ns f (m.set i true, n + 1) (forkN key l r).left (k.lo (forkN key l r).key) = _ from e1]
    rw [if_pos (show (true, marks (m.set i true) pl, n + 1 + (L.size : Int)).1 = true from rfl)]
    rw [show mayS ns f (true, marks (m.set i true) pl, n + 1 + (L.size : Int)).2 (forkN key l r).right (k.hi (forkN key l r).key) = _ from e2, marks_cons, marks_app]
    simp only [Tr.size, Prod.mk.injEq, true_and]
    omega
/-- A tree that may be. -/
structure Good (root : Int) (ns : List Nd) (T : Tr) : Prop where
  few : ns.length ≤ 2000
  hang : ∃ pl, Hang ns root T pl ∧ pl.Nodup
  wf : Wf T ks0
  all : T.size = ns.length
theorem rep_get (n j : Nat) : (List.replicate n false).getD j false = false := by
  by_cases h : j < n <;> simp [List.getD_eq_getElem?_getD, h]
theorem mayT_iff (root : Int) (ns : List Nd) : mayT root ns = true ↔ ∃ T, Good root ns T := by
  rw [mayT, Bool.and_eq_true, Bool.and_eq_true, decide_eq_true_eq, decide_eq_true_eq, mayR]
  constructor
  · rintro ⟨h1, h2, h3⟩
    obtain ⟨T, pl, g1, g2, g3, g4, g5⟩ := mayS_sound ns _ _ _ _ _ List.length_replicate h2
    rw [g5] at h3
    simp only at h3
    exact ⟨T, h1, ⟨pl, g1, g3⟩, g2, by omega⟩
  · rintro ⟨T, h1, ⟨pl, g1, g3⟩, g2, g4⟩
    have := mayS_complete ns g1 (ns.length + 1) (List.replicate ns.length false) 0 ks0 List.length_replicate (by omega) g2 g3 (fun j hj => rep_get _ _)
    rw [this]
    simp only
    exact ⟨h1, trivial, by omega⟩
theorem Good.may {root : Int} {ns : List Nd} {T : Tr} (h : Good root ns T) : mayT root ns = true := (mayT_iff root ns).2 ⟨T, h⟩
theorem Good.uniq {root : Int} {ns : List Nd} {T U : Tr} (h : Good root ns T) (h' : Good root ns U) : T = U := by
  obtain ⟨pl, h1, _⟩ := h.hang
  obtain ⟨pl', h2, _⟩ := h'.hang
  exact (h1.uniq h2).1
/-- A tree's nodes in plain order. -/
def preN : Nat → Tr → List Nd
  | _, .leaf ps st => [leafN ps st]
  | h, .fork k l r => forkN k ((h + 1 : Nat) : Int) ((h + 1 + l.size : Nat) : Int) :: (preN (h + 1) l ++ preN (h + 1 + l.size) r)
theorem preN_len : ∀ (T : Tr) (h : Nat), (preN h T).length = T.size
  | .leaf _ _, _ => rfl
  | .fork k l r, h => by simp [preN, preN_len l, preN_len r, Tr.size]; omega
theorem preN_hang (ns : List Nd) : ∀ (T : Tr) (h : Nat), (∀ j, j < T.size → ns.getD (h + j) default = (preN h T).getD j default) → h + T.size ≤ ns.length → Hang ns (h : Int) T (List.range' h T.size)
  | .leaf ps st, h, hg, hl => by
    have := hg 0 (by simp [Tr.size])
    simp only [Tr.size] at hl
    exact .leaf (by omega) this
  | .fork k l r, h, hg, hl => by
    have h0 := hg 0 (by simp [Tr.size]; omega)
    simp only [Tr.size] at hl hg
    have hL := preN_hang ns l (h + 1) (fun j hj => by
      have := hg (1 + j) (by omega)
      rw [show h + 1 + j = h + (1 + j) by omega, this, preN, show 1 + j = j + 1 by omega, List.getD_cons_succ]
      simp only [List.getD_eq_getElem?_getD]
      rw [List.getElem?_append_left (by rw [preN_len]; exact hj)]) (by omega)
    have hR := preN_hang ns r (h + 1 + l.size) (fun j hj => by
      have := hg (1 + l.size + j) (by omega)
      rw [show h + 1 + l.size + j = h + (1 + l.size + j) by omega, this, preN, show 1 + l.size + j = (l.size + j) + 1 by omega, List.getD_cons_succ]
      simp only [List.getD_eq_getElem?_getD]
      rw [List.getElem?_append_right (by rw [preN_len]; omega), preN_len, Nat.add_sub_cancel_left]) (by omega)
    have := Hang.fork (k := k) (i := h) (by omega) h0 hL hR
    rw [Tr.size, show 1 + l.size + r.size = (l.size + r.size) + 1 by omega, List.range'_succ, ← List.range'_append_1]
    exact this
theorem good_pre {T : Tr} (hw : Wf T ks0) (hs : T.size ≤ 2000) : Good 0 (preN 0 T) T := by
  refine ⟨by rw [preN_len]; exact hs, ⟨List.range' 0 T.size, ?_, List.nodup_range'⟩, hw, (preN_len T 0).symm⟩
  exact preN_hang _ T 0 (fun j hj => by rw [Nat.zero_add]) (by rw [preN_len]; omega)
end Go.X
set_option linter.unusedVariables false
set_option linter.unusedSimpArgs false
set_option maxHeartbeats 20000000
set_option maxRecDepth 100000
namespace Go.X
open Go.Proofs.Tryd (prog)

/-- A slice of one's own: nil, or a block; and the memory without it. -/
inductive SB (T : TypeId) (M : Mem) : Lf → List (List Lf) → Mem → Prop
  | nil : SB T M .nils [] M
  | ms {id : Nat} {rows : List (List Lf)} (h : M id = some (.cells T rows 0)) : SB T M (.ms id 0 rows.length) rows (M.del id)
theorem SB.le {T : TypeId} {M M0 : Mem} {x : Lf} {l : List (List Lf)} (h : SB T M x l M0) : M0.le M := by
  cases h with
  | nil => exact Mem.le_refl _
  | ms h => exact fun k bk hk => by rw [Mem.del_app] at hk; split at hk; cases hk; exact hk
theorem SB.set {T : TypeId} {M M0 : Mem} {x : Lf} {l : List (List Lf)} (h : SB T M x l M0) {i : Nat} (hi : ∀ j, i ≤ j → M j = none) (X : Blk) : SB T (M.set i X) x l (M0.set i X) := by
  cases h with
  | nil => exact .nil
  | @ms id rows h =>
    have hne := lt_of_bnd hi h
    have e : (M.set i X).del id = (M.del id).set i X := by
      funext k
      simp only [Mem.set_app, Mem.del_app]
      by_cases a : id = k
      · rw [if_pos a, if_neg (by omega), if_pos a]
      · rw [if_neg a, if_neg a]
    rw [← e]
    exact .ms (by rw [Mem.set_ne _ _ _ _ (by omega)]; exact h)
theorem SB.len {T : TypeId} {M M0 : Mem} {x : Lf} {l : List (List Lf)} (h : SB T M x l M0) {t : TypeId} {ti : TI} (hti : tiOf Go.Proofs.Tryd.prog t = some ti) (hd : ti.d = .slice T) : lenA Go.Proofs.Tryd.prog M t (.l x) = some (.l (.int .i64 l.length)) := by
  cases h with
  | nil => simp only [lenA, hti, hd]; rfl
  | ms h => simp only [lenA, hti, hd]
theorem app_sb {T t tx : TypeId} {ti te : TI} (hti : tiOf Go.Proofs.Tryd.prog t = some ti) (hd : ti.d = .slice T) (hte : tiOf Go.Proofs.Tryd.prog T = some te) (hz : zeroFits Go.Proofs.Tryd.prog T = true) (hsz : 0 < te.size) (hby : te.bytes ≤ 128) {M M0 : Mem} {x : Lf} {rows bs : List (List Lf)} {src : AV} (hb : SB T M x rows M0)
    (hsrc : srcRows Go.Proofs.Tryd.prog M t tx T te src = some bs) (hne : bs ≠ []) (hlen : rows.length + bs.length ≤ 1000000000) {K : AV → Mem → Prop}
    (h : ∀ id', (∀ j, id' ≤ j → M j = none) → K (.l (.ms id' 0 (rows.length + bs.length))) (M0.set id' (.cells T (rows ++ bs) 0))) : @appI Go.Proofs.Tryd.prog M t tx (.l x) src ⟨K⟩ := by
  have hbb : (rows.length + bs.length) * te.bytes ≤ 1000000000 * 128 := Nat.mul_le_mul hlen hby
  cases hb with
  | nil =>
    refine app_nils _ _ _ _ T _ _ hti hd hte hz hsz _ bs hsrc ?_ ?_ (fun e => absurd e hne) (fun _ id' hid => ?_)
    · rw [List.length_nil, Nat.zero_add] at hbb
      omega
    · rw [List.length_nil, Nat.zero_add] at hlen
      omega
    · have := h id' hid
      rw [List.length_nil, Nat.zero_add, List.nil_append] at this
      exact this
  | @ms id rows hM =>
    refine app_ms _ _ _ _ T _ _ hti hd hte hz hsz id rows.length _ (rows := rows) (keep := 0) bs hM hsrc (Nat.le_refl _) (Nat.zero_le _) (by omega) (by omega) (fun id' hid => ?_)
    rw [List.take_of_length_le (Nat.le_refl _)]
    exact h id' hid
theorem copies_spec (n : Nd) (hp : n.pairs.length ≤ 8796093022200) (M : Mem) : XCalls Go.Proofs.Tryd.prog 58 [.agg n.row] M fun r M' => r = .agg n.row ∧ M' = M := by
  refine xcalls_intro (rs := [.cell 2 46]) Go.Proofs.Tryd.func58 rfl (by kernel_rfl) rfl rfl (by kernel_rfl) (by simp) ?_
  simp -implicitDefEqProofs (maxSteps := 1000000) (disch := omega) only [↓xsP, ↓vc_seq, xsQ, xsT, xsR, xsD, ↓reduceIte, reduceCtorEq, eq_self, ne_eq, imp_self, forall_const, Nat.reduceEqDiff, Nat.reduceAdd, Nat.reduceSub, Nat.reduceMul, Nat.reduceLT, Nat.reduceLeDiff, Nat.reduceBEq, Nat.reduceDiv, Nat.reduceMod, Int.reduceToNat, Int.reduceNeg, Int.reduceAdd, Int.reduceSub, Int.reduceMul, Int.reduceEq, Int.reduceNe, Int.reduceLT, Int.reduceLE, Int.reduceGT, Int.reduceGE]
  refine newI_intro fun id1 hid1 => ?_
  simp -implicitDefEqProofs (maxSteps := 1000000) (disch := omega) only [↓xsP, ↓vc_seq, xsQ, xsT, xsR, xsD, ↓reduceIte, reduceCtorEq, eq_self, ne_eq, imp_self, forall_const, Nat.reduceEqDiff, Nat.reduceAdd, Nat.reduceSub, Nat.reduceMul, Nat.reduceLT, Nat.reduceLeDiff, Nat.reduceBEq, Nat.reduceDiv, Nat.reduceMod, Int.reduceToNat, Int.reduceNeg, Int.reduceAdd, Int.reduceSub, Int.reduceMul, Int.reduceEq, Int.reduceNe, Int.reduceLT, Int.reduceLE, Int.reduceGT, Int.reduceGE]
  refine newI_intro fun id2 hid2 => ?_
  obtain ⟨k12, hid2'⟩ := bnd_new hid2
  simp -implicitDefEqProofs (maxSteps := 1000000) (disch := omega) only [↓xsP, ↓vc_seq, xsQ, xsT, xsR, xsD, ↓reduceIte, reduceCtorEq, eq_self, ne_eq, imp_self, forall_const, Nat.reduceEqDiff, Nat.reduceAdd, Nat.reduceSub, Nat.reduceMul, Nat.reduceLT, Nat.reduceLeDiff, Nat.reduceBEq, Nat.reduceDiv, Nat.reduceMod, Int.reduceToNat, Int.reduceNeg, Int.reduceAdd, Int.reduceSub, Int.reduceMul, Int.reduceEq, Int.reduceNe, Int.reduceLT, Int.reduceLE, Int.reduceGT, Int.reduceGE]
  refine call_of (clone_spec n.pairs (by omega) _) ?_
  simp -implicitDefEqProofs (maxSteps := 1000000) (disch := omega) only [↓xsP, ↓vc_seq, xsQ, xsT, xsR, xsD, ↓reduceIte, reduceCtorEq, eq_self, ne_eq, imp_self, forall_const, Nat.reduceEqDiff, Nat.reduceAdd, Nat.reduceSub, Nat.reduceMul, Nat.reduceLT, Nat.reduceLeDiff, Nat.reduceBEq, Nat.reduceDiv, Nat.reduceMod, Int.reduceToNat, Int.reduceNeg, Int.reduceAdd, Int.reduceSub, Int.reduceMul, Int.reduceEq, Int.reduceNe, Int.reduceLT, Int.reduceLE, Int.reduceGT, Int.reduceGE]
  refine fin_ok (fun k bk hk => ?_) ⟨rfl, rfl⟩
  have := lt_of_bnd hid1 hk
  simp (disch := omega) only [Mem.set_ne, hk]
theorem get_mid {α : Type} (A B : List α) (x : α) : (A ++ x :: B)[A.length]? = some x := by simp
theorem set_mid {α : Type} (A B : List α) (x y : α) : (A ++ x :: B).set A.length y = A ++ y :: B := by simp
theorem lay_spec (root : Int) (ns : List Nd) (hp : Pok ns) : ∀ {a : Int} {T : Tr} {pl : List Nat}, Hang ns a T pl → ∀ (rows : List (List Lf)) (x : Lf) (M M0 : Mem), SB 46 M x rows M0 → rows.length + T.size ≤ 100000 →
    XCalls Go.Proofs.Tryd.prog 42 [trA root ns, .l (.int .i64 a), .l x] M fun r M' =>
      ∃ id', (∀ j, id' ≤ j → M j = none) ∧ r = .l (.ms id' 0 (rows.length + T.size)) ∧ M' = M0.set id' (.cells 46 (rows ++ (preN rows.length T).map Nd.row) 0) := by
  intro a T pl h
  induction h with
  | @leaf i ps st hi h =>
    intro rows x M M0 hb hl
    have hpx : (leafN ps st).pairs.length ≤ 8796093022200 := by rw [← h]; exact hp _ (getD_mem' ns default hi)
    refine xcalls_intro (rs := [.tmp 6]) Go.Proofs.Tryd.func42 rfl (by kernel_rfl) rfl rfl (by kernel_rfl) (by simp) ?_
    simp -implicitDefEqProofs (maxSteps := 1000000) (disch := omega) only [↓xsP, ↓vc_seq, xsQ, xsT, xsR, xsD, ↓reduceIte, reduceCtorEq, eq_self, ne_eq, imp_self, forall_const, Nat.reduceEqDiff, Nat.reduceAdd, Nat.reduceSub, Nat.reduceMul, Nat.reduceLT, Nat.reduceLeDiff, Nat.reduceBEq, Nat.reduceDiv, Nat.reduceMod, Int.reduceToNat, Int.reduceNeg, Int.reduceAdd, Int.reduceSub, Int.reduceMul, Int.reduceEq, Int.reduceNe, Int.reduceLT, Int.reduceLE, Int.reduceGT, Int.reduceGE, trA]
    refine newI_intro fun id3 hid3 => ?_
    have hb3 := hb.set hid3 (.cells 24 [[.int .i64 root, .sl (ns.map Nd.row)]] 0)
    have hln := hb3.len ti_22 rfl
    simp only [lenA, ti_22] at hln
    simp -implicitDefEqProofs (maxSteps := 1000000) (disch := omega) only [↓xsP, ↓vc_seq, xsQ, xsT, xsR, xsD, ↓reduceIte, reduceCtorEq, eq_self, ne_eq, imp_self, forall_const, Nat.reduceEqDiff, Nat.reduceAdd, Nat.reduceSub, Nat.reduceMul, Nat.reduceLT, Nat.reduceLeDiff, Nat.reduceBEq, Nat.reduceDiv, Nat.reduceMod, Int.reduceToNat, Int.reduceNeg, Int.reduceAdd, Int.reduceSub, Int.reduceMul, Int.reduceEq, Int.reduceNe, Int.reduceLT, Int.reduceLE, Int.reduceGT, Int.reduceGE, hln, h]
    refine callI_of ((copies_spec (leafN ps st) hpx _).mono ?_)
    rintro _ _ ⟨rfl, rfl⟩
    obtain ⟨nd, hnd⟩ : ∃ nd, leafN ps st = nd := ⟨_, rfl⟩
    rw [hnd]
    simp -implicitDefEqProofs (maxSteps := 1000000) (disch := omega) only [↓xsP, ↓vc_seq, xsQ, xsT, xsR, xsD, ↓reduceIte, reduceCtorEq, eq_self, ne_eq, imp_self, forall_const, Nat.reduceEqDiff, Nat.reduceAdd, Nat.reduceSub, Nat.reduceMul, Nat.reduceLT, Nat.reduceLeDiff, Nat.reduceBEq, Nat.reduceDiv, Nat.reduceMod, Int.reduceToNat, Int.reduceNeg, Int.reduceAdd, Int.reduceSub, Int.reduceMul, Int.reduceEq, Int.reduceNe, Int.reduceLT, Int.reduceLE, Int.reduceGT, Int.reduceGE]
    refine newI_intro fun id8 hid8 => ?_
    have hb8 := hb3.set hid8 (.cells 46 [nd.row] 0)
    rw [row_nd] at hb8
    simp -implicitDefEqProofs (maxSteps := 1000000) (disch := omega) only [↓xsP, ↓vc_seq, xsQ, xsT, xsR, xsD, ↓reduceIte, reduceCtorEq, eq_self, ne_eq, imp_self, forall_const, Nat.reduceEqDiff, Nat.reduceAdd, Nat.reduceSub, Nat.reduceMul, Nat.reduceLT, Nat.reduceLeDiff, Nat.reduceBEq, Nat.reduceDiv, Nat.reduceMod, Int.reduceToNat, Int.reduceNeg, Int.reduceAdd, Int.reduceSub, Int.reduceMul, Int.reduceEq, Int.reduceNe, Int.reduceLT, Int.reduceLE, Int.reduceGT, Int.reduceGE]
    refine newI_intro fun idp hidp => ?_
    have hbp := hb8.set hidp (.cells 46 [nd.row] 0)
    rw [row_nd] at hbp
    obtain ⟨k38, hid8'⟩ := bnd_new hid8
    obtain ⟨k8p, hidp'⟩ := bnd_new hidp
    obtain ⟨k3p, hidp''⟩ := bnd_new hidp'
    simp -implicitDefEqProofs (maxSteps := 1000000) (disch := omega) only [↓xsP, ↓vc_seq, xsQ, xsT, xsR, xsD, ↓reduceIte, reduceCtorEq, eq_self, ne_eq, imp_self, forall_const, Nat.reduceEqDiff, Nat.reduceAdd, Nat.reduceSub, Nat.reduceMul, Nat.reduceLT, Nat.reduceLeDiff, Nat.reduceBEq, Nat.reduceDiv, Nat.reduceMod, Int.reduceToNat, Int.reduceNeg, Int.reduceAdd, Int.reduceSub, Int.reduceMul, Int.reduceEq, Int.reduceNe, Int.reduceLT, Int.reduceLE, Int.reduceGT, Int.reduceGE]
    refine app_sb ti_22 rfl ti_46 (by kernel_rfl) (by decide) (by decide) hbp (bs := [nd.row]) (by unfold srcRows; rw [if_pos rfl]; simp only [Mem.set_eq]; rfl) (by simp) (by simp; omega) (fun id1 hid1 => ?_)
    obtain ⟨kp1, hid1'⟩ := bnd_new hid1
    obtain ⟨k81, hid1''⟩ := bnd_new hid1'
    obtain ⟨k31, hid1M⟩ := bnd_new hid1''
    rw [row_nd]
    simp -implicitDefEqProofs (maxSteps := 1000000) (disch := omega) only [↓xsP, ↓vc_seq, xsQ, xsT, xsR, xsD, ↓reduceIte, reduceCtorEq, eq_self, ne_eq, imp_self, forall_const, Nat.reduceEqDiff, Nat.reduceAdd, Nat.reduceSub, Nat.reduceMul, Nat.reduceLT, Nat.reduceLeDiff, Nat.reduceBEq, Nat.reduceDiv, Nat.reduceMod, Int.reduceToNat, Int.reduceNeg, Int.reduceAdd, Int.reduceSub, Int.reduceMul, Int.reduceEq, Int.reduceNe, Int.reduceLT, Int.reduceLE, Int.reduceGT, Int.reduceGE]
    have hro : nd.route = false := by rw [← hnd]; rfl
    simp -implicitDefEqProofs (maxSteps := 1000000) (disch := omega) only [↓xsP, ↓vc_seq, xsQ, xsT, xsR, xsD, ↓reduceIte, reduceCtorEq, eq_self, ne_eq, imp_self, forall_const, Nat.reduceEqDiff, Nat.reduceAdd, Nat.reduceSub, Nat.reduceMul, Nat.reduceLT, Nat.reduceLeDiff, Nat.reduceBEq, Nat.reduceDiv, Nat.reduceMod, Int.reduceToNat, Int.reduceNeg, Int.reduceAdd, Int.reduceSub, Int.reduceMul, Int.reduceEq, Int.reduceNe, Int.reduceLT, Int.reduceLE, Int.reduceGT, Int.reduceGE, hro]
    refine fin_ok (fun k bk hk => ?_) ⟨id1, hid1M, rfl, rfl⟩
    rw [Mem.set_app] at hk ⊢
    split at hk
    · rename_i e
      rw [if_pos e, ← hk, preN, hnd]
      simp [Nd.row, hro]
    · rename_i e
      have := lt_of_bnd hid3 (hb.le _ _ hk)
      rw [if_neg e, Mem.set_ne _ _ _ _ (by omega), Mem.set_ne _ _ _ _ (by omega), Mem.set_ne _ _ _ _ (by omega)]
      exact hk
  | @fork i k l r L R pl pr hi h hL hR ihl ihr =>
    intro rows x M M0 hb hl
    have hpx : (forkN k l r).pairs.length ≤ 8796093022200 := by rw [← h]; exact hp _ (getD_mem' ns default hi)
    refine xcalls_intro (rs := [.tmp 6]) Go.Proofs.Tryd.func42 rfl (by kernel_rfl) rfl rfl (by kernel_rfl) (by simp) ?_
    simp -implicitDefEqProofs (maxSteps := 1000000) (disch := omega) only [↓xsP, ↓vc_seq, xsQ, xsT, xsR, xsD, ↓reduceIte, reduceCtorEq, eq_self, ne_eq, imp_self, forall_const, Nat.reduceEqDiff, Nat.reduceAdd, Nat.reduceSub, Nat.reduceMul, Nat.reduceLT, Nat.reduceLeDiff, Nat.reduceBEq, Nat.reduceDiv, Nat.reduceMod, Int.reduceToNat, Int.reduceNeg, Int.reduceAdd, Int.reduceSub, Int.reduceMul, Int.reduceEq, Int.reduceNe, Int.reduceLT, Int.reduceLE, Int.reduceGT, Int.reduceGE, trA]
    refine newI_intro fun id3 hid3 => ?_
    have hb3 := hb.set hid3 (.cells 24 [[.int .i64 root, .sl (ns.map Nd.row)]] 0)
    have hln := hb3.len ti_22 rfl
    simp only [lenA, ti_22] at hln
    simp -implicitDefEqProofs (maxSteps := 1000000) (disch := omega) only [↓xsP, ↓vc_seq, xsQ, xsT, xsR, xsD, ↓reduceIte, reduceCtorEq, eq_self, ne_eq, imp_self, forall_const, Nat.reduceEqDiff, Nat.reduceAdd, Nat.reduceSub, Nat.reduceMul, Nat.reduceLT, Nat.reduceLeDiff, Nat.reduceBEq, Nat.reduceDiv, Nat.reduceMod, Int.reduceToNat, Int.reduceNeg, Int.reduceAdd, Int.reduceSub, Int.reduceMul, Int.reduceEq, Int.reduceNe, Int.reduceLT, Int.reduceLE, Int.reduceGT, Int.reduceGE, hln, h]
    refine callI_of ((copies_spec (forkN k l r) hpx _).mono ?_)
    rintro _ _ ⟨rfl, rfl⟩
    obtain ⟨nd, hnd⟩ : ∃ nd, forkN k l r = nd := ⟨_, rfl⟩
    rw [hnd]
    simp -implicitDefEqProofs (maxSteps := 1000000) (disch := omega) only [↓xsP, ↓vc_seq, xsQ, xsT, xsR, xsD, ↓reduceIte, reduceCtorEq, eq_self, ne_eq, imp_self, forall_const, Nat.reduceEqDiff, Nat.reduceAdd, Nat.reduceSub, Nat.reduceMul, Nat.reduceLT, Nat.reduceLeDiff, Nat.reduceBEq, Nat.reduceDiv, Nat.reduceMod, Int.reduceToNat, Int.reduceNeg, Int.reduceAdd, Int.reduceSub, Int.reduceMul, Int.reduceEq, Int.reduceNe, Int.reduceLT, Int.reduceLE, Int.reduceGT, Int.reduceGE]
    refine newI_intro fun id8 hid8 => ?_
    have hb8 := hb3.set hid8 (.cells 46 [nd.row] 0)
    rw [row_nd] at hb8
    simp -implicitDefEqProofs (maxSteps := 1000000) (disch := omega) only [↓xsP, ↓vc_seq, xsQ, xsT, xsR, xsD, ↓reduceIte, reduceCtorEq, eq_self, ne_eq, imp_self, forall_const, Nat.reduceEqDiff, Nat.reduceAdd, Nat.reduceSub, Nat.reduceMul, Nat.reduceLT, Nat.reduceLeDiff, Nat.reduceBEq, Nat.reduceDiv, Nat.reduceMod, Int.reduceToNat, Int.reduceNeg, Int.reduceAdd, Int.reduceSub, Int.reduceMul, Int.reduceEq, Int.reduceNe, Int.reduceLT, Int.reduceLE, Int.reduceGT, Int.reduceGE]
    refine newI_intro fun idp hidp => ?_
    have hbp := hb8.set hidp (.cells 46 [nd.row] 0)
    rw [row_nd] at hbp
    obtain ⟨k38, hid8'⟩ := bnd_new hid8
    obtain ⟨k8p, hidp'⟩ := bnd_new hidp
    obtain ⟨k3p, hidp''⟩ := bnd_new hidp'
    simp -implicitDefEqProofs (maxSteps := 1000000) (disch := omega) only [↓xsP, ↓vc_seq, xsQ, xsT, xsR, xsD, ↓reduceIte, reduceCtorEq, eq_self, ne_eq, imp_self, forall_const, Nat.reduceEqDiff, Nat.reduceAdd, Nat.reduceSub, Nat.reduceMul, Nat.reduceLT, Nat.reduceLeDiff, Nat.reduceBEq, Nat.reduceDiv, Nat.reduceMod, Int.reduceToNat, Int.reduceNeg, Int.reduceAdd, Int.reduceSub, Int.reduceMul, Int.reduceEq, Int.reduceNe, Int.reduceLT, Int.reduceLE, Int.reduceGT, Int.reduceGE]
    refine app_sb ti_22 rfl ti_46 (by kernel_rfl) (by decide) (by decide) hbp (bs := [nd.row]) (by unfold srcRows; rw [if_pos rfl]; simp only [Mem.set_eq]; rfl) (by simp) (by simp; omega) (fun id1 hid1 => ?_)
    obtain ⟨kp1, hid1'⟩ := bnd_new hid1
    obtain ⟨k81, hid1''⟩ := bnd_new hid1'
    obtain ⟨k31, hid1M⟩ := bnd_new hid1''
    rw [row_nd]
    simp -implicitDefEqProofs (maxSteps := 1000000) (disch := omega) only [↓xsP, ↓vc_seq, xsQ, xsT, xsR, xsD, ↓reduceIte, reduceCtorEq, eq_self, ne_eq, imp_self, forall_const, Nat.reduceEqDiff, Nat.reduceAdd, Nat.reduceSub, Nat.reduceMul, Nat.reduceLT, Nat.reduceLeDiff, Nat.reduceBEq, Nat.reduceDiv, Nat.reduceMod, Int.reduceToNat, Int.reduceNeg, Int.reduceAdd, Int.reduceSub, Int.reduceMul, Int.reduceEq, Int.reduceNe, Int.reduceLT, Int.reduceLE, Int.reduceGT, Int.reduceGE]
    have hro : nd.route = true := by rw [← hnd]; rfl
    have key : ∀ (A B C D : Blk) (N : Mem), ((((M0.set id3 A).set id8 B).set idp C).set id1 D) = N → N id3 = some A ∧ N id8 = some B ∧ N id1 = some D ∧ (∀ k bk, M0 k = some bk → k < id3 ∧ N k = some bk) := by
      rintro A B C D N rfl
      refine ⟨?_, ?_, Mem.set_eq _ _ _, fun k bk hk => ?_⟩
      · simp (disch := omega) only [Mem.set_ne, Mem.set_eq]
      · simp (disch := omega) only [Mem.set_ne, Mem.set_eq]
      · have := lt_of_bnd hid3 (hb.le _ _ hk)
        refine ⟨this, ?_⟩
        simp (disch := omega) only [Mem.set_ne, hk]
    generalize hN : Mem.set (Mem.set (Mem.set (Mem.set M0 _ _) _ _) _ _) _ _ = N
    obtain ⟨hN3, hN8, hN1, hMN⟩ := key _ _ _ _ _ hN
    clear key hN hln
    rw [hro] at hN1 hN8
    simp -implicitDefEqProofs (maxSteps := 1000000) (disch := omega) only [↓xsP, ↓vc_seq, xsQ, xsT, xsR, xsD, ↓reduceIte, reduceCtorEq, eq_self, ne_eq, imp_self, forall_const, Nat.reduceEqDiff, Nat.reduceAdd, Nat.reduceSub, Nat.reduceMul, Nat.reduceLT, Nat.reduceLeDiff, Nat.reduceBEq, Nat.reduceDiv, Nat.reduceMod, Int.reduceToNat, Int.reduceNeg, Int.reduceAdd, Int.reduceSub, Int.reduceMul, Int.reduceEq, Int.reduceNe, Int.reduceLT, Int.reduceLE, Int.reduceGT, Int.reduceGE, hro, hN3, hN8]
    refine xquiet (by kernel_rfl) (by kernel_rfl) (by kernel_rfl) ?_
    simp -implicitDefEqProofs (maxSteps := 1000000) (disch := omega) only [↓xsP, ↓vc_seq, xsQ, xsT, xsR, xsD, ↓reduceIte, reduceCtorEq, eq_self, ne_eq, imp_self, forall_const, Nat.reduceEqDiff, Nat.reduceAdd, Nat.reduceSub, Nat.reduceMul, Nat.reduceLT, Nat.reduceLeDiff, Nat.reduceBEq, Nat.reduceDiv, Nat.reduceMod, Int.reduceToNat, Int.reduceNeg, Int.reduceAdd, Int.reduceSub, Int.reduceMul, Int.reduceEq, Int.reduceNe, Int.reduceLT, Int.reduceLE, Int.reduceGT, Int.reduceGE, hN3, hN8]
    have hg1 : ∀ (y : List Lf) (B : List (List Lf)), (rows ++ y :: B)[rows.length]? = some y := fun y B => get_mid rows B y
    have hs1 : ∀ (x y : List Lf) (B : List (List Lf)), (rows ++ x :: B).set rows.length y = rows ++ y :: B := fun x y B => set_mid rows B x y
    simp -implicitDefEqProofs (maxSteps := 1000000) (disch := omega) only [↓xsP, ↓vc_seq, xsQ, xsT, xsR, xsD, ↓reduceIte, reduceCtorEq, eq_self, ne_eq, imp_self, forall_const, Nat.reduceEqDiff, Nat.reduceAdd, Nat.reduceSub, Nat.reduceMul, Nat.reduceLT, Nat.reduceLeDiff, Nat.reduceBEq, Nat.reduceDiv, Nat.reduceMod, Int.reduceToNat, Int.reduceNeg, Int.reduceAdd, Int.reduceSub, Int.reduceMul, Int.reduceEq, Int.reduceNe, Int.reduceLT, Int.reduceLE, Int.reduceGT, Int.reduceGE, hN3, hN8, hN1, hg1, hs1]
    have hnl : nd.left = l := by rw [← hnd]; rfl
    have hnr : nd.right = r := by rw [← hnd]; rfl
    have hnk : nd.key = k := by rw [← hnd]; rfl
    have hnp : nd.pairs = [] := by rw [← hnd]; rfl
    have hns : nd.stat = 0 := by rw [← hnd]; rfl
    simp only [Tr.size] at hl
    rw [hnl]
    generalize hr1 : (rows ++ [([.bool true, .int .i64 nd.key, .int .i64 ((rows.length + 1 : Nat) : Int), .int .i64 nd.right, .sl (nd.pairs.map Pr.row), .int .i64 nd.stat] : List Lf)]) = R1
    have hR1 : R1.length = rows.length + 1 := by rw [← hr1]; simp
    have hb1 : SB 46 (N.set id1 (.cells 46 R1 0)) (.ms id1 0 (rows.length + 1)) R1 ((N.set id1 (.cells 46 R1 0)).del id1) := by
      have := SB.ms (T := 46) (M := N.set id1 (.cells 46 R1 0)) (id := id1) (rows := R1) (Mem.set_eq _ _ _)
      rw [hR1] at this
      exact this
    refine callI_of ((ihl R1 _ _ _ hb1 (by omega)).mono ?_)
    rintro _ _ ⟨id2, hid2, rfl, rfl⟩
    obtain ⟨k12, hid2'⟩ := bnd_new hid2
    have k32 := lt_of_bnd hid2' hN3
    have k82 := lt_of_bnd hid2' hN8
    rw [hR1]
    have hg2 : ∀ B : List (List Lf), (R1 ++ B)[rows.length]? = some [.bool true, .int .i64 nd.key, .int .i64 ((rows.length + 1 : Nat) : Int), .int .i64 nd.right, .sl (nd.pairs.map Pr.row), .int .i64 nd.stat] := fun B => by
      rw [← hr1, List.append_assoc]
      exact get_mid _ _ _
    have hs2 : ∀ (y : List Lf) (B : List (List Lf)), (R1 ++ B).set rows.length y = rows ++ y :: B := fun y B => by
      rw [← hr1, List.append_assoc]
      exact set_mid _ _ _ _
    have hnl2 : rows.length < R1.length + L.size := by omega
    simp -implicitDefEqProofs (maxSteps := 1000000) (disch := omega) only [↓xsP, ↓vc_seq, xsQ, xsT, xsR, xsD, ↓reduceIte, reduceCtorEq, eq_self, ne_eq, imp_self, forall_const, Nat.reduceEqDiff, Nat.reduceAdd, Nat.reduceSub, Nat.reduceMul, Nat.reduceLT, Nat.reduceLeDiff, Nat.reduceBEq, Nat.reduceDiv, Nat.reduceMod, Int.reduceToNat, Int.reduceNeg, Int.reduceAdd, Int.reduceSub, Int.reduceMul, Int.reduceEq, Int.reduceNe, Int.reduceLT, Int.reduceLE, Int.reduceGT, Int.reduceGE, hN3, hN8, hg2, hs2, hR1]
    rw [hnr]
    generalize hr2 : (rows ++ ([.bool true, .int .i64 nd.key, .int .i64 ((rows.length + 1 : Nat) : Int), .int .i64 ((rows.length + 1 + L.size : Nat) : Int), .sl (nd.pairs.map Pr.row), .int .i64 nd.stat] : List Lf) :: (preN (rows.length + 1) L).map Nd.row) = R2
    have hR2 : R2.length = rows.length + 1 + L.size := by rw [← hr2]; simp [preN_len]; omega
    generalize hQ : (((N.set id1 (.cells 46 R1 0)).del id1).set id2 (.cells 46 R2 0)) = Q
    have hQ2 : Q id2 = some (.cells 46 R2 0) := by rw [← hQ, Mem.set_eq]
    have hQM : ∀ k bk, M0 k = some bk → Q k = some bk := fun k bk hk => by
      obtain ⟨a1, a2⟩ := hMN k bk hk
      rw [← hQ]
      have := lt_of_bnd hid2' a2
      simp (disch := omega) only [Mem.set_ne, Mem.del_ne, a2]
    have hQ3 : Q id3 = some (.cells 24 [[.int .i64 root, .sl (ns.map Nd.row)]] 0) := by rw [← hQ]; simp (disch := omega) only [Mem.set_ne, Mem.del_ne, hN3]
    clear hQ
    have hb2 : SB 46 Q (.ms id2 0 (rows.length + 1 + L.size)) R2 (Q.del id2) := by
      have := SB.ms (T := 46) (M := Q) (id := id2) (rows := R2) hQ2
      rw [hR2] at this
      exact this
    refine callI_of ((ihr R2 _ _ _ hb2 (by omega)).mono ?_)
    rintro _ _ ⟨id4, hid4, rfl, rfl⟩
    have k24 := lt_of_bnd hid4 hQ2
    have k34 := lt_of_bnd hid4 hQ3
    simp -implicitDefEqProofs (maxSteps := 1000000) (disch := omega) only [↓xsP, ↓vc_seq, xsQ, xsT, xsR, xsD, ↓reduceIte, reduceCtorEq, eq_self, ne_eq, imp_self, forall_const, Nat.reduceEqDiff, Nat.reduceAdd, Nat.reduceSub, Nat.reduceMul, Nat.reduceLT, Nat.reduceLeDiff, Nat.reduceBEq, Nat.reduceDiv, Nat.reduceMod, Int.reduceToNat, Int.reduceNeg, Int.reduceAdd, Int.reduceSub, Int.reduceMul, Int.reduceEq, Int.reduceNe, Int.reduceLT, Int.reduceLE, Int.reduceGT, Int.reduceGE]
    have hM4 : ∀ j, id4 ≤ j → M j = none := fun j hj => by
      cases hm : M j with
      | none => rfl
      | some bk =>
        have := hid1M j (by omega)
        rw [hm] at this
        cases this
    refine fin_ok (fun k bk hk => ?_) ⟨id4, hM4, by rw [hR2]; simp only [Tr.size]; congr 2; omega, rfl⟩
    rw [Mem.set_app] at hk ⊢
    split at hk
    · rename_i e
      rw [if_pos e, ← hk, preN, hR2, ← hr2, hnp, hns, hnk]
      simp [Nd.row, forkN]
    · rename_i e
      have h1 := hQM _ _ hk
      have h2 := (hMN _ _ hk).1
      rw [if_neg e, Mem.del_ne _ _ _ (by omega)]
      exact h1
theorem tplain_spec (root : Int) (ns : List Nd) (hl : ns.length ≤ 140737488355328) (hp : Pok ns) (M : Mem) :
    XCalls Go.Proofs.Tryd.prog 25 [trA root ns] M fun r M' => M' = M ∧ ((mayT root ns = false ∧ r = .tup [trA 0 [], .l (.bool false)]) ∨ ∃ T, Good root ns T ∧ r = .tup [trA 0 (preN 0 T), .l (.bool true)]) := by
  refine xcalls_intro (rs := [.cell 2 24, .tmp 3]) Go.Proofs.Tryd.func25 rfl (by kernel_rfl) rfl rfl (by kernel_rfl) (by simp) ?_
  simp -implicitDefEqProofs (maxSteps := 1000000) (disch := omega) only [↓xsP, ↓vc_seq, xsQ, xsT, xsR, xsD, ↓reduceIte, reduceCtorEq, eq_self, ne_eq, imp_self, forall_const, Nat.reduceEqDiff, Nat.reduceAdd, Nat.reduceSub, Nat.reduceMul, Nat.reduceLT, Nat.reduceLeDiff, Nat.reduceBEq, Nat.reduceDiv, Nat.reduceMod, Int.reduceToNat, Int.reduceNeg, Int.reduceAdd, Int.reduceSub, Int.reduceMul, Int.reduceEq, Int.reduceNe, Int.reduceLT, Int.reduceLE, Int.reduceGT, Int.reduceGE, trA]
  refine newI_intro fun id1 hid1 => ?_
  simp -implicitDefEqProofs (maxSteps := 1000000) (disch := omega) only [↓xsP, ↓vc_seq, xsQ, xsT, xsR, xsD, ↓reduceIte, reduceCtorEq, eq_self, ne_eq, imp_self, forall_const, Nat.reduceEqDiff, Nat.reduceAdd, Nat.reduceSub, Nat.reduceMul, Nat.reduceLT, Nat.reduceLeDiff, Nat.reduceBEq, Nat.reduceDiv, Nat.reduceMod, Int.reduceToNat, Int.reduceNeg, Int.reduceAdd, Int.reduceSub, Int.reduceMul, Int.reduceEq, Int.reduceNe, Int.reduceLT, Int.reduceLE, Int.reduceGT, Int.reduceGE]
  refine newI_intro fun id2 hid2 => ?_
  obtain ⟨k12, hid2'⟩ := bnd_new hid2
  simp -implicitDefEqProofs (maxSteps := 1000000) (disch := omega) only [↓xsP, ↓vc_seq, xsQ, xsT, xsR, xsD, ↓reduceIte, reduceCtorEq, eq_self, ne_eq, imp_self, forall_const, Nat.reduceEqDiff, Nat.reduceAdd, Nat.reduceSub, Nat.reduceMul, Nat.reduceLT, Nat.reduceLeDiff, Nat.reduceBEq, Nat.reduceDiv, Nat.reduceMod, Int.reduceToNat, Int.reduceNeg, Int.reduceAdd, Int.reduceSub, Int.reduceMul, Int.reduceEq, Int.reduceNe, Int.reduceLT, Int.reduceLE, Int.reduceGT, Int.reduceGE]
  refine call_of (tmay_spec root ns hl hp _) ?_
  cases hm : mayT root ns with
  | false =>
    simp -implicitDefEqProofs (maxSteps := 1000000) (disch := omega) only [↓xsP, ↓vc_seq, xsQ, xsT, xsR, xsD, ↓reduceIte, reduceCtorEq, eq_self, ne_eq, imp_self, forall_const, Nat.reduceEqDiff, Nat.reduceAdd, Nat.reduceSub, Nat.reduceMul, Nat.reduceLT, Nat.reduceLeDiff, Nat.reduceBEq, Nat.reduceDiv, Nat.reduceMod, Int.reduceToNat, Int.reduceNeg, Int.reduceAdd, Int.reduceSub, Int.reduceMul, Int.reduceEq, Int.reduceNe, Int.reduceLT, Int.reduceLE, Int.reduceGT, Int.reduceGE]
    refine finI_of (XFin.wk (XFin.le (fun k bk hk => ?_) ⟨rfl, .inl ⟨rfl, rfl⟩⟩))
    have := lt_of_bnd hid1 hk
    simp (disch := omega) only [Mem.set_ne, hk]
  | true =>
    obtain ⟨T, hT⟩ := (mayT_iff root ns).1 hm
    obtain ⟨pl, hH, -⟩ := hT.hang
    have hsz := hT.all
    have hfw := hT.few
    simp -implicitDefEqProofs (maxSteps := 1000000) (disch := omega) only [↓xsP, ↓vc_seq, xsQ, xsT, xsR, xsD, ↓reduceIte, reduceCtorEq, eq_self, ne_eq, imp_self, forall_const, Nat.reduceEqDiff, Nat.reduceAdd, Nat.reduceSub, Nat.reduceMul, Nat.reduceLT, Nat.reduceLeDiff, Nat.reduceBEq, Nat.reduceDiv, Nat.reduceMod, Int.reduceToNat, Int.reduceNeg, Int.reduceAdd, Int.reduceSub, Int.reduceMul, Int.reduceEq, Int.reduceNe, Int.reduceLT, Int.reduceLE, Int.reduceGT, Int.reduceGE]
    refine callI_of ((lay_spec root ns hp hH [] .nils _ _ .nil (by simp only [List.length_nil]; omega)).mono ?_)
    rintro _ _ ⟨id3, hid3, rfl, rfl⟩
    obtain ⟨k23, hid3'⟩ := bnd_new hid3
    simp -implicitDefEqProofs (maxSteps := 1000000) (disch := omega) only [↓xsP, ↓vc_seq, xsQ, xsT, xsR, xsD, ↓reduceIte, reduceCtorEq, eq_self, ne_eq, imp_self, forall_const, Nat.reduceEqDiff, Nat.reduceAdd, Nat.reduceSub, Nat.reduceMul, Nat.reduceLT, Nat.reduceLeDiff, Nat.reduceBEq, Nat.reduceDiv, Nat.reduceMod, Int.reduceToNat, Int.reduceNeg, Int.reduceAdd, Int.reduceSub, Int.reduceMul, Int.reduceEq, Int.reduceNe, Int.reduceLT, Int.reduceLE, Int.reduceGT, Int.reduceGE, List.length_nil]
    have h3 : ∀ A B C D : Blk, ((((M.set id1 A).set id2 B).set id3 C).set id2 D) id3 = some C := fun A B C D => by simp (disch := omega) only [Mem.set_ne, Mem.set_eq]
    refine finI_of (XFin.frz id3 (h3 _ _ _ _) (XFin.le (fun k bk hk => ?_) ⟨rfl, .inr ⟨T, hT, ?_⟩⟩))
    · have := lt_of_bnd hid1 hk
      simp (disch := omega) only [Mem.set_ne, hk]
    · have hpl := preN_len T 0
      simp only [frzA, frz1, frzL, List.map_cons, List.map_nil, List.length_map, hpl, Nat.zero_add, Nat.le_refl, and_self, if_true, List.drop_zero]
      rw [List.take_of_length_le (by rw [List.length_map, hpl]; exact Nat.le_refl _)]
      rfl
end Go.X
set_option linter.unusedVariables false
set_option linter.unusedSimpArgs false
set_option maxHeartbeats 20000000
set_option maxRecDepth 100000
namespace Go.X
open Go.Proofs.Tryd (prog)

def Tr.deep : Tr → Nat
  | .leaf _ _ => 0
  | .fork _ l r => max l.deep r.deep + 1
def Tr.keys : Tr → List Int
  | .leaf _ _ => []
  | .fork k l r => l.keys ++ k :: r.keys
/-! ### slices of one's own in drawn regions -/
def dl : Lf → List Nat
  | .ms id _ _ => [id]
  | _ => []
theorem SB.del {T : TypeId} {M M0 : Mem} {x : Lf} {l : List (List Lf)} (h : SB T M x l M0) : delL M (dl x) = M0 := by
  cases h with
  | nil => rfl
  | ms h => rfl
theorem SB.mono {T : TypeId} {M M0 M' : Mem} {x : Lf} {l : List (List Lf)} (h : SB T M x l M0) (hle : M.le M') : SB T M' x l (delL M' (dl x)) := by
  cases h with
  | nil => exact .nil
  | ms h => exact .ms (hle _ _ h)
theorem SB.upd {T : TypeId} {M M0 : Mem} {x : Lf} {l : List (List Lf)} (h : SB T M x l M0) (nid : Nat) (B : Blk) : updE M ((dl x).map (fun d => (d, none)) ++ [(nid, some B)]) = M0.set nid B := by
  rw [updE_app, updE_dels, updE_some, updE_nil, h.del]
theorem wapp_sb {T t tx : TypeId} {ti te : TI} (hti : tiOf Go.Proofs.Tryd.prog t = some ti) (hd : ti.d = .slice T) (hte : tiOf Go.Proofs.Tryd.prog T = some te) (hz : zeroFits Go.Proofs.Tryd.prog T = true) (hsz : 0 < te.size) (hby : te.bytes ≤ 128) {M M0 : Mem} {nid : Nat} {x : Lf} {rows bs : List (List Lf)} {src : AV} (hb : SB T M x rows M0)
    (hsrc : srcRows Go.Proofs.Tryd.prog M t tx T te src = some bs) (hne : bs ≠ []) (hlen : rows.length + bs.length ≤ 1000000000) {C : AV → Eff → Prop}
    (h : C (.l (.ms nid 0 (rows.length + bs.length))) ((dl x).map (fun d => (d, none)) ++ [(nid, some (.cells T (rows ++ bs) 0))])) : @wappI Go.Proofs.Tryd.prog M nid t tx (.l x) src ⟨C⟩ := by
  have hbb : (rows.length + bs.length) * te.bytes ≤ 1000000000 * 128 := Nat.mul_le_mul hlen hby
  show wapp Go.Proofs.Tryd.prog M nid t tx (.l x) src C
  unfold wapp
  cases hb with
  | nil =>
    simp only [hti, hd, hte, hsrc, optK]
    rw [List.length_nil, Nat.zero_add] at hbb hlen
    refine ⟨hz, hsz, fun e => absurd e hne, fun _ => ⟨by omega, by omega, ?_⟩⟩
    rw [List.length_nil, Nat.zero_add, List.nil_append] at h
    exact h
  | @ms id rows hM =>
    simp only [hti, hd, hte, hsrc, optK, hM]
    refine ⟨hz, hsz, trivial, Nat.le_refl _, Nat.zero_le _, by omega, by omega, ?_⟩
    rw [List.take_of_length_le (Nat.le_refl _)]
    exact h
theorem Tr.deep_lt (T : Tr) : T.deep < T.size := by
  induction T with
  | leaf => simp [Tr.deep, Tr.size]
  | fork k l r h1 h2 => simp only [Tr.deep, Tr.size]; omega
theorem Tr.keys_size (T : Tr) : 2 * T.keys.length + 1 = T.size := by
  induction T with
  | leaf => rfl
  | fork k l r h1 h2 => simp only [Tr.size, Tr.keys, List.length_append, List.length_cons]; omega
theorem max_i (a b : Nat) : (if (b : Int) > (a : Int) then (b : Int) else a) = ((max a b : Nat) : Int) := by
  split <;> omega
theorem vdeep_spec0 (root : Int) (ns : List Nd) : ∀ {a : Int} {T : Tr} {pl : List Nat}, Hang ns a T pl → T.size ≤ 100000 → ∀ (M : Mem),
    XCalls Go.Proofs.Tryd.prog 33 [trA root ns, .l (.int .i64 a)] M fun r M' => r = .l (.int .i64 T.deep) ∧ M' = M := by
  intro a T pl h
  induction h with
  | @leaf i ps st hi h =>
    intro hs M
    refine xcalls_intro (rs := [.tmp 4]) Go.Proofs.Tryd.func33 rfl (by kernel_rfl) rfl rfl (by kernel_rfl) (by simp) ?_
    simp -implicitDefEqProofs (maxSteps := 1000000) (disch := omega) only [↓xsP, ↓vc_seq, xsQ, xsT, xsR, xsD, ↓reduceIte, reduceCtorEq, eq_self, ne_eq, imp_self, forall_const, Nat.reduceEqDiff, Nat.reduceAdd, Nat.reduceSub, Nat.reduceMul, Nat.reduceLT, Nat.reduceLeDiff, Nat.reduceBEq, Nat.reduceDiv, Nat.reduceMod, Int.reduceToNat, Int.reduceNeg, Int.reduceAdd, Int.reduceSub, Int.reduceMul, Int.reduceEq, Int.reduceNe, Int.reduceLT, Int.reduceLE, Int.reduceGT, Int.reduceGE, trA]
    refine newI_intro fun id1 hid1 => ?_
    simp -implicitDefEqProofs (maxSteps := 1000000) (disch := omega) only [↓xsP, ↓vc_seq, xsQ, xsT, xsR, xsD, ↓reduceIte, reduceCtorEq, eq_self, ne_eq, imp_self, forall_const, Nat.reduceEqDiff, Nat.reduceAdd, Nat.reduceSub, Nat.reduceMul, Nat.reduceLT, Nat.reduceLeDiff, Nat.reduceBEq, Nat.reduceDiv, Nat.reduceMod, Int.reduceToNat, Int.reduceNeg, Int.reduceAdd, Int.reduceSub, Int.reduceMul, Int.reduceEq, Int.reduceNe, Int.reduceLT, Int.reduceLE, Int.reduceGT, Int.reduceGE, h]
    refine newI_intro fun id2 hid2 => ?_
    obtain ⟨k12, hid2'⟩ := bnd_new hid2
    have hro : (leafN ps st).route = false := rfl
    simp -implicitDefEqProofs (maxSteps := 1000000) (disch := omega) only [↓xsP, ↓vc_seq, xsQ, xsT, xsR, xsD, ↓reduceIte, reduceCtorEq, eq_self, ne_eq, imp_self, forall_const, Nat.reduceEqDiff, Nat.reduceAdd, Nat.reduceSub, Nat.reduceMul, Nat.reduceLT, Nat.reduceLeDiff, Nat.reduceBEq, Nat.reduceDiv, Nat.reduceMod, Int.reduceToNat, Int.reduceNeg, Int.reduceAdd, Int.reduceSub, Int.reduceMul, Int.reduceEq, Int.reduceNe, Int.reduceLT, Int.reduceLE, Int.reduceGT, Int.reduceGE, h, hro]
    refine fin_ok (fun k bk hk => ?_) ⟨rfl, rfl⟩
    have := lt_of_bnd hid1 hk
    simp (disch := omega) only [Mem.set_ne, hk]
  | @fork i k l r L R pl pr hi h hL hR ihl ihr =>
    intro hs M
    simp only [Tr.size] at hs
    have d1 := L.deep_lt
    have d2 := R.deep_lt
    refine xcalls_intro (rs := [.tmp 4]) Go.Proofs.Tryd.func33 rfl (by kernel_rfl) rfl rfl (by kernel_rfl) (by simp) ?_
    simp -implicitDefEqProofs (maxSteps := 1000000) (disch := omega) only [↓xsP, ↓vc_seq, xsQ, xsT, xsR, xsD, ↓reduceIte, reduceCtorEq, eq_self, ne_eq, imp_self, forall_const, Nat.reduceEqDiff, Nat.reduceAdd, Nat.reduceSub, Nat.reduceMul, Nat.reduceLT, Nat.reduceLeDiff, Nat.reduceBEq, Nat.reduceDiv, Nat.reduceMod, Int.reduceToNat, Int.reduceNeg, Int.reduceAdd, Int.reduceSub, Int.reduceMul, Int.reduceEq, Int.reduceNe, Int.reduceLT, Int.reduceLE, Int.reduceGT, Int.reduceGE, trA]
    refine newI_intro fun id1 hid1 => ?_
    simp -implicitDefEqProofs (maxSteps := 1000000) (disch := omega) only [↓xsP, ↓vc_seq, xsQ, xsT, xsR, xsD, ↓reduceIte, reduceCtorEq, eq_self, ne_eq, imp_self, forall_const, Nat.reduceEqDiff, Nat.reduceAdd, Nat.reduceSub, Nat.reduceMul, Nat.reduceLT, Nat.reduceLeDiff, Nat.reduceBEq, Nat.reduceDiv, Nat.reduceMod, Int.reduceToNat, Int.reduceNeg, Int.reduceAdd, Int.reduceSub, Int.reduceMul, Int.reduceEq, Int.reduceNe, Int.reduceLT, Int.reduceLE, Int.reduceGT, Int.reduceGE, h]
    refine newI_intro fun id2 hid2 => ?_
    obtain ⟨k12, hid2'⟩ := bnd_new hid2
    have hro : (forkN k l r).route = true := rfl
    have hle : (forkN k l r).left = l := rfl
    have hri : (forkN k l r).right = r := rfl
    simp -implicitDefEqProofs (maxSteps := 1000000) (disch := omega) only [↓xsP, ↓vc_seq, xsQ, xsT, xsR, xsD, ↓reduceIte, reduceCtorEq, eq_self, ne_eq, imp_self, forall_const, Nat.reduceEqDiff, Nat.reduceAdd, Nat.reduceSub, Nat.reduceMul, Nat.reduceLT, Nat.reduceLeDiff, Nat.reduceBEq, Nat.reduceDiv, Nat.reduceMod, Int.reduceToNat, Int.reduceNeg, Int.reduceAdd, Int.reduceSub, Int.reduceMul, Int.reduceEq, Int.reduceNe, Int.reduceLT, Int.reduceLE, Int.reduceGT, Int.reduceGE, h, hro]
    refine xquiet (by kernel_rfl) (by kernel_rfl) (by kernel_rfl) ?_
    simp -implicitDefEqProofs (maxSteps := 1000000) (disch := omega) only [↓xsP, ↓vc_seq, xsQ, xsT, xsR, xsD, ↓reduceIte, reduceCtorEq, eq_self, ne_eq, imp_self, forall_const, Nat.reduceEqDiff, Nat.reduceAdd, Nat.reduceSub, Nat.reduceMul, Nat.reduceLT, Nat.reduceLeDiff, Nat.reduceBEq, Nat.reduceDiv, Nat.reduceMod, Int.reduceToNat, Int.reduceNeg, Int.reduceAdd, Int.reduceSub, Int.reduceMul, Int.reduceEq, Int.reduceNe, Int.reduceLT, Int.reduceLE, Int.reduceGT, Int.reduceGE, h, hle, hri]
    refine dcallI_of (ihl (by omega) _) ?_
    simp -implicitDefEqProofs (maxSteps := 1000000) (disch := omega) only [↓xsP, ↓vc_seq, xsQ, xsT, xsR, xsD, ↓reduceIte, reduceCtorEq, eq_self, ne_eq, imp_self, forall_const, Nat.reduceEqDiff, Nat.reduceAdd, Nat.reduceSub, Nat.reduceMul, Nat.reduceLT, Nat.reduceLeDiff, Nat.reduceBEq, Nat.reduceDiv, Nat.reduceMod, Int.reduceToNat, Int.reduceNeg, Int.reduceAdd, Int.reduceSub, Int.reduceMul, Int.reduceEq, Int.reduceNe, Int.reduceLT, Int.reduceLE, Int.reduceGT, Int.reduceGE, h, hle, hri]
    refine dcallI_of (ihr (by omega) _) ?_
    simp -implicitDefEqProofs (maxSteps := 1000000) (disch := omega) only [↓xsP, ↓vc_seq, xsQ, xsT, xsR, xsD, ↓reduceIte, reduceCtorEq, eq_self, ne_eq, imp_self, forall_const, Nat.reduceEqDiff, Nat.reduceAdd, Nat.reduceSub, Nat.reduceMul, Nat.reduceLT, Nat.reduceLeDiff, Nat.reduceBEq, Nat.reduceDiv, Nat.reduceMod, Int.reduceToNat, Int.reduceNeg, Int.reduceAdd, Int.reduceSub, Int.reduceMul, Int.reduceEq, Int.reduceNe, Int.reduceLT, Int.reduceLE, Int.reduceGT, Int.reduceGE, h, hle, hri, max_i]
    refine fin_ok (fun k bk hk => ?_) ⟨rfl, rfl⟩
    have := lt_of_bnd hid1 hk
    simp (disch := omega) only [Mem.set_ne, hk]
end Go.X
set_option linter.unusedVariables false
set_option linter.unusedSimpArgs false
set_option maxHeartbeats 20000000
set_option maxRecDepth 100000
namespace Go.X
open Go.Proofs.Tryd (prog)

theorem vdeep_spec (root : Int) (ns : List Nd) (hl : ns.length ≤ 140737488355328) (hp : Pok ns) {T : Tr} (hT : Good root ns T) (M : Mem) :
    XCalls Go.Proofs.Tryd.prog 17 [trA root ns] M fun r M' => r = .l (.int .i64 T.deep) ∧ M' = M := by
  obtain ⟨pl, hH, -⟩ := hT.hang
  have hsz := hT.all
  have hfw := hT.few
  refine xcalls_intro (rs := [.tmp 2]) Go.Proofs.Tryd.func17 rfl (by kernel_rfl) rfl rfl (by kernel_rfl) (by simp) ?_
  simp -implicitDefEqProofs (maxSteps := 1000000) (disch := omega) only [↓xsP, ↓vc_seq, xsQ, xsT, xsR, xsD, ↓reduceIte, reduceCtorEq, eq_self, ne_eq, imp_self, forall_const, Nat.reduceEqDiff, Nat.reduceAdd, Nat.reduceSub, Nat.reduceMul, Nat.reduceLT, Nat.reduceLeDiff, Nat.reduceBEq, Nat.reduceDiv, Nat.reduceMod, Int.reduceToNat, Int.reduceNeg, Int.reduceAdd, Int.reduceSub, Int.reduceMul, Int.reduceEq, Int.reduceNe, Int.reduceLT, Int.reduceLE, Int.reduceGT, Int.reduceGE, trA]
  refine newI_intro fun id1 hid1 => ?_
  simp -implicitDefEqProofs (maxSteps := 1000000) (disch := omega) only [↓xsP, ↓vc_seq, xsQ, xsT, xsR, xsD, ↓reduceIte, reduceCtorEq, eq_self, ne_eq, imp_self, forall_const, Nat.reduceEqDiff, Nat.reduceAdd, Nat.reduceSub, Nat.reduceMul, Nat.reduceLT, Nat.reduceLeDiff, Nat.reduceBEq, Nat.reduceDiv, Nat.reduceMod, Int.reduceToNat, Int.reduceNeg, Int.reduceAdd, Int.reduceSub, Int.reduceMul, Int.reduceEq, Int.reduceNe, Int.reduceLT, Int.reduceLE, Int.reduceGT, Int.reduceGE]
  refine call_of (tmay_spec root ns hl hp _) ?_
  rw [hT.may]
  simp -implicitDefEqProofs (maxSteps := 1000000) (disch := omega) only [↓xsP, ↓vc_seq, xsQ, xsT, xsR, xsD, ↓reduceIte, reduceCtorEq, eq_self, ne_eq, imp_self, forall_const, Nat.reduceEqDiff, Nat.reduceAdd, Nat.reduceSub, Nat.reduceMul, Nat.reduceLT, Nat.reduceLeDiff, Nat.reduceBEq, Nat.reduceDiv, Nat.reduceMod, Int.reduceToNat, Int.reduceNeg, Int.reduceAdd, Int.reduceSub, Int.reduceMul, Int.reduceEq, Int.reduceNe, Int.reduceLT, Int.reduceLE, Int.reduceGT, Int.reduceGE]
  refine call_of (vdeep_spec0 root ns hH (by omega) _) ?_
  simp -implicitDefEqProofs (maxSteps := 1000000) (disch := omega) only [↓xsP, ↓vc_seq, xsQ, xsT, xsR, xsD, ↓reduceIte, reduceCtorEq, eq_self, ne_eq, imp_self, forall_const, Nat.reduceEqDiff, Nat.reduceAdd, Nat.reduceSub, Nat.reduceMul, Nat.reduceLT, Nat.reduceLeDiff, Nat.reduceBEq, Nat.reduceDiv, Nat.reduceMod, Int.reduceToNat, Int.reduceNeg, Int.reduceAdd, Int.reduceSub, Int.reduceMul, Int.reduceEq, Int.reduceNe, Int.reduceLT, Int.reduceLE, Int.reduceGT, Int.reduceGE]
  exact fin_ok (le_new (Mem.le_refl _) hid1) ⟨rfl, rfl⟩
theorem vdeep_bad (root : Int) (ns : List Nd) (hl : ns.length ≤ 140737488355328) (hp : Pok ns) (hT : mayT root ns = false) (M : Mem) :
    XCalls Go.Proofs.Tryd.prog 17 [trA root ns] M fun r M' => r = .l (.int .i64 0) ∧ M' = M := by
  refine xcalls_intro (rs := [.tmp 2]) Go.Proofs.Tryd.func17 rfl (by kernel_rfl) rfl rfl (by kernel_rfl) (by simp) ?_
  simp -implicitDefEqProofs (maxSteps := 1000000) (disch := omega) only [↓xsP, ↓vc_seq, xsQ, xsT, xsR, xsD, ↓reduceIte, reduceCtorEq, eq_self, ne_eq, imp_self, forall_const, Nat.reduceEqDiff, Nat.reduceAdd, Nat.reduceSub, Nat.reduceMul, Nat.reduceLT, Nat.reduceLeDiff, Nat.reduceBEq, Nat.reduceDiv, Nat.reduceMod, Int.reduceToNat, Int.reduceNeg, Int.reduceAdd, Int.reduceSub, Int.reduceMul, Int.reduceEq, Int.reduceNe, Int.reduceLT, Int.reduceLE, Int.reduceGT, Int.reduceGE, trA]
  refine newI_intro fun id1 hid1 => ?_
  simp -implicitDefEqProofs (maxSteps := 1000000) (disch := omega) only [↓xsP, ↓vc_seq, xsQ, xsT, xsR, xsD, ↓reduceIte, reduceCtorEq, eq_self, ne_eq, imp_self, forall_const, Nat.reduceEqDiff, Nat.reduceAdd, Nat.reduceSub, Nat.reduceMul, Nat.reduceLT, Nat.reduceLeDiff, Nat.reduceBEq, Nat.reduceDiv, Nat.reduceMod, Int.reduceToNat, Int.reduceNeg, Int.reduceAdd, Int.reduceSub, Int.reduceMul, Int.reduceEq, Int.reduceNe, Int.reduceLT, Int.reduceLE, Int.reduceGT, Int.reduceGE]
  refine call_of (tmay_spec root ns hl hp _) ?_
  rw [hT]
  simp -implicitDefEqProofs (maxSteps := 1000000) (disch := omega) only [↓xsP, ↓vc_seq, xsQ, xsT, xsR, xsD, ↓reduceIte, reduceCtorEq, eq_self, ne_eq, imp_self, forall_const, Nat.reduceEqDiff, Nat.reduceAdd, Nat.reduceSub, Nat.reduceMul, Nat.reduceLT, Nat.reduceLeDiff, Nat.reduceBEq, Nat.reduceDiv, Nat.reduceMod, Int.reduceToNat, Int.reduceNeg, Int.reduceAdd, Int.reduceSub, Int.reduceMul, Int.reduceEq, Int.reduceNe, Int.reduceLT, Int.reduceLE, Int.reduceGT, Int.reduceGE]
  exact fin_ok (le_new (Mem.le_refl _) hid1) ⟨rfl, rfl⟩
def Tr.isLeaf : Tr → Bool
  | .leaf _ _ => true
  | .fork _ _ _ => false
theorem vkeys_spec0 (root : Int) (ns : List Nd) : ∀ {a : Int} {T : Tr} {pl : List Nat}, Hang ns a T pl → T.size ≤ 100000 → ∀ (rows : List (List Lf)) (x : Lf) (M M0 : Mem), SB 3 M x rows M0 → rows.length + T.keys.length ≤ 200000 →
    XCalls Go.Proofs.Tryd.prog 28 [trA root ns, .l (.int .i64 a), .l x] M fun r M' =>
      (T.isLeaf = true → r = .l x ∧ M' = M) ∧ (T.isLeaf = false → ∃ id', (∀ j, id' ≤ j → M j = none) ∧ r = .l (.ms id' 0 (rows.length + T.keys.length)) ∧ M' = M0.set id' (.cells 3 (rows ++ T.keys.map irow) 0)) := by
  intro a T pl h
  induction h with
  | @leaf i ps st hi h =>
    intro hs rows x M M0 hb hl
    refine xcalls_intro (rs := [.tmp 6]) Go.Proofs.Tryd.func28 rfl (by kernel_rfl) rfl rfl (by kernel_rfl) (by simp) ?_
    simp -implicitDefEqProofs (maxSteps := 1000000) (disch := omega) only [↓xsP, ↓vc_seq, xsQ, xsT, xsR, xsD, ↓reduceIte, reduceCtorEq, eq_self, ne_eq, imp_self, forall_const, Nat.reduceEqDiff, Nat.reduceAdd, Nat.reduceSub, Nat.reduceMul, Nat.reduceLT, Nat.reduceLeDiff, Nat.reduceBEq, Nat.reduceDiv, Nat.reduceMod, Int.reduceToNat, Int.reduceNeg, Int.reduceAdd, Int.reduceSub, Int.reduceMul, Int.reduceEq, Int.reduceNe, Int.reduceLT, Int.reduceLE, Int.reduceGT, Int.reduceGE, trA]
    refine newI_intro fun id3 hid3 => ?_
    simp -implicitDefEqProofs (maxSteps := 1000000) (disch := omega) only [↓xsP, ↓vc_seq, xsQ, xsT, xsR, xsD, ↓reduceIte, reduceCtorEq, eq_self, ne_eq, imp_self, forall_const, Nat.reduceEqDiff, Nat.reduceAdd, Nat.reduceSub, Nat.reduceMul, Nat.reduceLT, Nat.reduceLeDiff, Nat.reduceBEq, Nat.reduceDiv, Nat.reduceMod, Int.reduceToNat, Int.reduceNeg, Int.reduceAdd, Int.reduceSub, Int.reduceMul, Int.reduceEq, Int.reduceNe, Int.reduceLT, Int.reduceLE, Int.reduceGT, Int.reduceGE, h]
    refine newI_intro fun id7 hid7 => ?_
    obtain ⟨k37, hid7'⟩ := bnd_new hid7
    have hro : (leafN ps st).route = false := rfl
    simp -implicitDefEqProofs (maxSteps := 1000000) (disch := omega) only [↓xsP, ↓vc_seq, xsQ, xsT, xsR, xsD, ↓reduceIte, reduceCtorEq, eq_self, ne_eq, imp_self, forall_const, Nat.reduceEqDiff, Nat.reduceAdd, Nat.reduceSub, Nat.reduceMul, Nat.reduceLT, Nat.reduceLeDiff, Nat.reduceBEq, Nat.reduceDiv, Nat.reduceMod, Int.reduceToNat, Int.reduceNeg, Int.reduceAdd, Int.reduceSub, Int.reduceMul, Int.reduceEq, Int.reduceNe, Int.reduceLT, Int.reduceLE, Int.reduceGT, Int.reduceGE, h, hro]
    refine fin_ok (fun k bk hk => ?_) ⟨fun _ => ⟨rfl, rfl⟩, fun h => by cases h⟩
    have := lt_of_bnd hid3 hk
    simp (disch := omega) only [Mem.set_ne, hk]
  | @fork i k l r L R pl pr hi h hL hR ihl ihr =>
    intro hs rows x M M0 hb hl
    simp only [Tr.size] at hs
    have h1 := ihl (by omega)
    have h2 := ihr (by omega)
    refine xcalls_intro (rs := [.tmp 6]) Go.Proofs.Tryd.func28 rfl (by kernel_rfl) rfl rfl (by kernel_rfl) (by simp) ?_
    simp -implicitDefEqProofs (maxSteps := 1000000) (disch := omega) only [↓xsP, ↓vc_seq, xsQ, xsT, xsR, xsD, ↓reduceIte, reduceCtorEq, eq_self, ne_eq, imp_self, forall_const, Nat.reduceEqDiff, Nat.reduceAdd, Nat.reduceSub, Nat.reduceMul, Nat.reduceLT, Nat.reduceLeDiff, Nat.reduceBEq, Nat.reduceDiv, Nat.reduceMod, Int.reduceToNat, Int.reduceNeg, Int.reduceAdd, Int.reduceSub, Int.reduceMul, Int.reduceEq, Int.reduceNe, Int.reduceLT, Int.reduceLE, Int.reduceGT, Int.reduceGE, trA]
    refine newI_intro fun id3 hid3 => ?_
    have hb3 := hb.set hid3 (.cells 24 [[.int .i64 root, .sl (ns.map Nd.row)]] 0)
    simp -implicitDefEqProofs (maxSteps := 1000000) (disch := omega) only [↓xsP, ↓vc_seq, xsQ, xsT, xsR, xsD, ↓reduceIte, reduceCtorEq, eq_self, ne_eq, imp_self, forall_const, Nat.reduceEqDiff, Nat.reduceAdd, Nat.reduceSub, Nat.reduceMul, Nat.reduceLT, Nat.reduceLeDiff, Nat.reduceBEq, Nat.reduceDiv, Nat.reduceMod, Int.reduceToNat, Int.reduceNeg, Int.reduceAdd, Int.reduceSub, Int.reduceMul, Int.reduceEq, Int.reduceNe, Int.reduceLT, Int.reduceLE, Int.reduceGT, Int.reduceGE, h]
    refine newI_intro fun id7 hid7 => ?_
    have hb7 := hb3.set hid7 (.cells 46 [(forkN k l r).row] 0)
    obtain ⟨k37, hid7'⟩ := bnd_new hid7
    rw [row_nd] at hb7
    have hro : (forkN k l r).route = true := rfl
    rw [hro] at hb7
    simp -implicitDefEqProofs (maxSteps := 1000000) (disch := omega) only [↓xsP, ↓vc_seq, xsQ, xsT, xsR, xsD, ↓reduceIte, reduceCtorEq, eq_self, ne_eq, imp_self, forall_const, Nat.reduceEqDiff, Nat.reduceAdd, Nat.reduceSub, Nat.reduceMul, Nat.reduceLT, Nat.reduceLeDiff, Nat.reduceBEq, Nat.reduceDiv, Nat.reduceMod, Int.reduceToNat, Int.reduceNeg, Int.reduceAdd, Int.reduceSub, Int.reduceMul, Int.reduceEq, Int.reduceNe, Int.reduceLT, Int.reduceLE, Int.reduceGT, Int.reduceGE, h, hro]
    generalize hN : (M.set id3 (.cells 24 [[.int .i64 root, .sl (ns.map Nd.row)]] 0)).set id7 _ = N at hb7 ⊢
    generalize hN0 : (M0.set id3 (.cells 24 [[.int .i64 root, .sl (ns.map Nd.row)]] 0)).set id7 _ = N0 at hb7
    have hN3 : N id3 = some (.cells 24 [[.int .i64 root, .sl (ns.map Nd.row)]] 0) := by rw [← hN, Mem.set_ne _ _ _ _ (by omega), Mem.set_eq]
    have hN7 := Mem.set_eq (M.set id3 (.cells 24 [[.int .i64 root, .sl (ns.map Nd.row)]] 0)) id7 (.cells 46 [[.bool true, .int .i64 (forkN k l r).key, .int .i64 (forkN k l r).left, .int .i64 (forkN k l r).right, .sl ((forkN k l r).pairs.map Pr.row), .int .i64 (forkN k l r).stat]] 0)
    rw [hN] at hN7
    have hMN : ∀ k bk, M0 k = some bk → k < id3 ∧ N0 k = some bk := fun k bk hk => by
      have := lt_of_bnd hid3 (hb.le _ _ hk)
      refine ⟨this, ?_⟩
      rw [← hN0, Mem.set_ne _ _ _ _ (by omega), Mem.set_ne _ _ _ _ (by omega)]
      exact hk
    have hNM : ∀ j, N j = none → M j = none := fun j hj => by
      cases hm : M j with
      | none => rfl
      | some bk =>
        have := lt_of_bnd hid3 hm
        rw [← hN, Mem.set_ne _ _ _ _ (by omega), Mem.set_ne _ _ _ _ (by omega), hm] at hj
        cases hj
    have hle : (forkN k l r).left = l := rfl
    have hri : (forkN k l r).right = r := rfl
    have hke : (forkN k l r).key = k := rfl
    simp only [Tr.keys, List.length_append, List.length_cons] at hl
    clear hN hN0 hb3 hid7
    cases hb7 with
    | nil =>
      refine xwrite (fun n0 => [ (11, n0 + 7), (12, n0 + 11)]) [11, 12] [7, 10, 11, 12] [[11], [11], [11], [], [], [], [], [], [7], [7], [7], [], [], []] (by kernel_rfl) (by kernel_rfl) (by kernel_rfl) (by kernel_rfl) (fun n0 hn0 => ⟨rfl, ?_, ?_⟩)
      · exact TOk_cons (.inr ⟨7, by decide, ⟨by decide, by decide⟩, rfl⟩) (TOk_cons (.inr ⟨11, by decide, ⟨by decide, by decide⟩, rfl⟩) (TOk_nil _ _))
      have z3 := lt_of_bnd hn0 hN3
      have z7 := lt_of_bnd hn0 hN7
      simp -implicitDefEqProofs (maxSteps := 1000000) (disch := omega) only [↓xsP, ↓vc_seq, xsQ, xsT, xsR, xsD, ↓reduceIte, reduceCtorEq, eq_self, ne_eq, imp_self, forall_const, Nat.reduceEqDiff, Nat.reduceAdd, Nat.reduceSub, Nat.reduceMul, Nat.reduceLT, Nat.reduceLeDiff, Nat.reduceBEq, Nat.reduceDiv, Nat.reduceMod, Int.reduceToNat, Int.reduceNeg, Int.reduceAdd, Int.reduceSub, Int.reduceMul, Int.reduceEq, Int.reduceNe, Int.reduceLT, Int.reduceLE, Int.reduceGT, Int.reduceGE, hN3, hN7, hle, hri]
      cases hLl : L.isLeaf <;> cases hRl : R.isLeaf
      · refine wcall_new (L.keys.length) (.cells 3 (L.keys.map irow) 0) [] (fun M' hle => (h1 ([] : List (List Lf)) .nils M' M' .nil (by simp only [List.length_nil]; omega)).mono ?_) ?_
        · rintro r' M2 ⟨-, hr⟩
          obtain ⟨id', hid', rfl, rfl⟩ := hr hLl
          exact ⟨id', hid', by simp, Mem.le_refl _⟩
        simp -implicitDefEqProofs (maxSteps := 1000000) (disch := omega) only [↓xsP, ↓vc_seq, xsQ, xsT, xsR, xsD, ↓reduceIte, reduceCtorEq, eq_self, ne_eq, imp_self, forall_const, Nat.reduceEqDiff, Nat.reduceAdd, Nat.reduceSub, Nat.reduceMul, Nat.reduceLT, Nat.reduceLeDiff, Nat.reduceBEq, Nat.reduceDiv, Nat.reduceMod, Int.reduceToNat, Int.reduceNeg, Int.reduceAdd, Int.reduceSub, Int.reduceMul, Int.reduceEq, Int.reduceNe, Int.reduceLT, Int.reduceLE, Int.reduceGT, Int.reduceGE, hN3, hN7, hle, hri, hke]
        refine ⟨.inl (by decide), ?_⟩
        refine ⟨.inl (by decide), ?_⟩
        refine wapp_ms _ _ _ _ _ 3 _ _ ti_30 rfl ti_3 (by kernel_rfl) (by decide) (n0 + 7) (L.keys.length) _ (rows := L.keys.map irow) (keep := 0) [[.int .i64 k]] (by simp (disch := omega) only [Mem.set_ne, Mem.set_eq]) (by unfold srcRows; rw [if_pos rfl]; simp only [Mem.set_eq]; rfl) (by simp) (Nat.zero_le _) (by show (L.keys.length + 1) * 8 ≤ _; omega) (by show L.keys.length + 1 ≤ _; omega) ?_
        rw [List.take_of_length_le (by simp)]
        obtain ⟨Z, hZ⟩ : ∃ Z : List (List Lf), L.keys.map irow ++ [[.int .i64 k]] = Z := ⟨_, rfl⟩
        have hZl : Z.length = L.keys.length + 1 := by rw [← hZ]; simp
        rw [hZ]
        simp -implicitDefEqProofs (maxSteps := 1000000) (disch := omega) only [↓xsP, ↓vc_seq, xsQ, xsT, xsR, xsD, ↓reduceIte, reduceCtorEq, eq_self, ne_eq, imp_self, forall_const, Nat.reduceEqDiff, Nat.reduceAdd, Nat.reduceSub, Nat.reduceMul, Nat.reduceLT, Nat.reduceLeDiff, Nat.reduceBEq, Nat.reduceDiv, Nat.reduceMod, Int.reduceToNat, Int.reduceNeg, Int.reduceAdd, Int.reduceSub, Int.reduceMul, Int.reduceEq, Int.reduceNe, Int.reduceLT, Int.reduceLE, Int.reduceGT, Int.reduceGE, hN3, hN7, hle, hri, hke]
        refine ⟨.inl (by decide), ?_⟩
        have hsb : ∀ X : Mem, X (n0 + 11) = some (.cells 3 Z 0) → SB 3 X (.ms (n0 + 11) 0 (L.keys.length + 1)) Z (X.del (n0 + 11)) := fun X hX => by
          have := SB.ms (T := 3) hX
          rw [hZl] at this
          exact this
        refine wcall_new (L.keys.length + 1 + R.keys.length) (.cells 3 (Z ++ R.keys.map irow) 0) [n0 + 11] (fun M' hle => (h2 Z _ M' _ (hsb M' (hle _ _ (Mem.set_eq _ _ _))) (by omega)).mono ?_) ?_
        · rintro r' M2 ⟨-, hr⟩
          obtain ⟨id', hid', rfl, rfl⟩ := hr hRl
          exact ⟨id', hid', by rw [hZl], Mem.le_refl _⟩
        simp -implicitDefEqProofs (maxSteps := 1000000) (disch := omega) only [↓xsP, ↓vc_seq, xsQ, xsT, xsR, xsD, ↓reduceIte, reduceCtorEq, eq_self, ne_eq, imp_self, forall_const, Nat.reduceEqDiff, Nat.reduceAdd, Nat.reduceSub, Nat.reduceMul, Nat.reduceLT, Nat.reduceLeDiff, Nat.reduceBEq, Nat.reduceDiv, Nat.reduceMod, Int.reduceToNat, Int.reduceNeg, Int.reduceAdd, Int.reduceSub, Int.reduceMul, Int.reduceEq, Int.reduceNe, Int.reduceLT, Int.reduceLE, Int.reduceGT, Int.reduceGE, hN3, hN7, hle, hri, hke]
        refine ⟨.inl (by decide), ?_⟩
        have hkl : (Tr.fork k L R).keys.length = L.keys.length + (R.keys.length + 1) := by simp [Tr.keys]
        have hrows : ([] : List (List Lf)) ++ (Tr.fork k L R).keys.map irow = Z ++ R.keys.map irow := by rw [← hZ]; simp [Tr.keys, irow]
        refine fin_ok (fun j bk hj => ?_) ⟨fun h => (by cases h), fun _ => ⟨n0 + 12, fun j hj => hNM _ (hn0 j (by omega)), ?_, rfl⟩⟩
        · rw [hrows] at hj
          rw [Mem.set_app] at hj ⊢
          split at hj
          · rename_i e
            rw [if_pos e]
            exact hj
          · rename_i e
            obtain ⟨b1, b2⟩ := hMN _ _ hj
            rw [if_neg e]
            simp (disch := omega) only [Mem.set_ne, Mem.del_ne, b2]
        · refine congrArg (fun n => AV.l (.ms (n0 + 12) 0 n)) ?_
          try rw [List.length_nil]
          omega
      · refine wcall_new (L.keys.length) (.cells 3 (L.keys.map irow) 0) [] (fun M' hle => (h1 ([] : List (List Lf)) .nils M' M' .nil (by simp only [List.length_nil]; omega)).mono ?_) ?_
        · rintro r' M2 ⟨-, hr⟩
          obtain ⟨id', hid', rfl, rfl⟩ := hr hLl
          exact ⟨id', hid', by simp, Mem.le_refl _⟩
        simp -implicitDefEqProofs (maxSteps := 1000000) (disch := omega) only [↓xsP, ↓vc_seq, xsQ, xsT, xsR, xsD, ↓reduceIte, reduceCtorEq, eq_self, ne_eq, imp_self, forall_const, Nat.reduceEqDiff, Nat.reduceAdd, Nat.reduceSub, Nat.reduceMul, Nat.reduceLT, Nat.reduceLeDiff, Nat.reduceBEq, Nat.reduceDiv, Nat.reduceMod, Int.reduceToNat, Int.reduceNeg, Int.reduceAdd, Int.reduceSub, Int.reduceMul, Int.reduceEq, Int.reduceNe, Int.reduceLT, Int.reduceLE, Int.reduceGT, Int.reduceGE, hN3, hN7, hle, hri, hke]
        refine ⟨.inl (by decide), ?_⟩
        refine ⟨.inl (by decide), ?_⟩
        refine wapp_ms _ _ _ _ _ 3 _ _ ti_30 rfl ti_3 (by kernel_rfl) (by decide) (n0 + 7) (L.keys.length) _ (rows := L.keys.map irow) (keep := 0) [[.int .i64 k]] (by simp (disch := omega) only [Mem.set_ne, Mem.set_eq]) (by unfold srcRows; rw [if_pos rfl]; simp only [Mem.set_eq]; rfl) (by simp) (Nat.zero_le _) (by show (L.keys.length + 1) * 8 ≤ _; omega) (by show L.keys.length + 1 ≤ _; omega) ?_
        rw [List.take_of_length_le (by simp)]
        obtain ⟨Z, hZ⟩ : ∃ Z : List (List Lf), L.keys.map irow ++ [[.int .i64 k]] = Z := ⟨_, rfl⟩
        have hZl : Z.length = L.keys.length + 1 := by rw [← hZ]; simp
        rw [hZ]
        simp -implicitDefEqProofs (maxSteps := 1000000) (disch := omega) only [↓xsP, ↓vc_seq, xsQ, xsT, xsR, xsD, ↓reduceIte, reduceCtorEq, eq_self, ne_eq, imp_self, forall_const, Nat.reduceEqDiff, Nat.reduceAdd, Nat.reduceSub, Nat.reduceMul, Nat.reduceLT, Nat.reduceLeDiff, Nat.reduceBEq, Nat.reduceDiv, Nat.reduceMod, Int.reduceToNat, Int.reduceNeg, Int.reduceAdd, Int.reduceSub, Int.reduceMul, Int.reduceEq, Int.reduceNe, Int.reduceLT, Int.reduceLE, Int.reduceGT, Int.reduceGE, hN3, hN7, hle, hri, hke]
        refine ⟨.inl (by decide), ?_⟩
        have hRk : R.keys = [] := by cases R with | leaf _ _ => rfl | fork _ _ _ => cases hRl
        have hsb : ∀ X : Mem, X (n0 + 11) = some (.cells 3 Z 0) → SB 3 X (.ms (n0 + 11) 0 (L.keys.length + 1)) Z (X.del (n0 + 11)) := fun X hX => by
          have := SB.ms (T := 3) hX
          rw [hZl] at this
          exact this
        refine wcallI_eff (v := .l (.ms (n0 + 11) 0 (L.keys.length + 1))) (e := []) (fun M' hle => (h2 Z _ M' _ (hsb M' (hle _ _ (Mem.set_eq _ _ _))) (by omega)).mono ?_) ?_
        · rintro r' M2 ⟨hr, -⟩
          obtain ⟨rfl, rfl⟩ := hr hRl
          exact ⟨rfl, Mem.le_refl _⟩
        simp -implicitDefEqProofs (maxSteps := 1000000) (disch := omega) only [↓xsP, ↓vc_seq, xsQ, xsT, xsR, xsD, ↓reduceIte, reduceCtorEq, eq_self, ne_eq, imp_self, forall_const, Nat.reduceEqDiff, Nat.reduceAdd, Nat.reduceSub, Nat.reduceMul, Nat.reduceLT, Nat.reduceLeDiff, Nat.reduceBEq, Nat.reduceDiv, Nat.reduceMod, Int.reduceToNat, Int.reduceNeg, Int.reduceAdd, Int.reduceSub, Int.reduceMul, Int.reduceEq, Int.reduceNe, Int.reduceLT, Int.reduceLE, Int.reduceGT, Int.reduceGE, hN3, hN7, hle, hri, hke]
        have hkl : (Tr.fork k L R).keys.length = L.keys.length + (R.keys.length + 1) := by simp [Tr.keys]
        have hrows : ([] : List (List Lf)) ++ (Tr.fork k L R).keys.map irow = Z ++ R.keys.map irow := by rw [← hZ]; simp [Tr.keys, irow, hRk]
        refine fin_ok (fun j bk hj => ?_) ⟨fun h => (by cases h), fun _ => ⟨n0 + 11, fun j hj => hNM _ (hn0 j (by omega)), ?_, rfl⟩⟩
        · rw [hrows, hRk, List.map_nil, List.append_nil] at hj
          rw [Mem.set_app] at hj ⊢
          split at hj
          · rename_i e
            rw [if_pos e]
            exact hj
          · rename_i e
            obtain ⟨b1, b2⟩ := hMN _ _ hj
            rw [if_neg e]
            simp (disch := omega) only [Mem.set_ne, Mem.del_ne, b2]
        · refine congrArg (fun n => AV.l (.ms (n0 + 11) 0 n)) ?_
          have a2 : R.keys.length = 0 := by rw [hRk]; rfl
          try rw [List.length_nil]
          omega
      · have hLk : L.keys = [] := by cases L with | leaf _ _ => rfl | fork _ _ _ => cases hLl
        refine wcallI_eff (v := .l .nils) (e := []) (fun M' hle => (h1 ([] : List (List Lf)) .nils M' M' .nil (by simp only [List.length_nil]; omega)).mono ?_) ?_
        · rintro r' M2 ⟨hr, -⟩
          obtain ⟨rfl, rfl⟩ := hr hLl
          exact ⟨rfl, Mem.le_refl _⟩
        simp -implicitDefEqProofs (maxSteps := 1000000) (disch := omega) only [↓xsP, ↓vc_seq, xsQ, xsT, xsR, xsD, ↓reduceIte, reduceCtorEq, eq_self, ne_eq, imp_self, forall_const, Nat.reduceEqDiff, Nat.reduceAdd, Nat.reduceSub, Nat.reduceMul, Nat.reduceLT, Nat.reduceLeDiff, Nat.reduceBEq, Nat.reduceDiv, Nat.reduceMod, Int.reduceToNat, Int.reduceNeg, Int.reduceAdd, Int.reduceSub, Int.reduceMul, Int.reduceEq, Int.reduceNe, Int.reduceLT, Int.reduceLE, Int.reduceGT, Int.reduceGE, hN3, hN7, hle, hri, hke]
        refine ⟨.inl (by decide), ?_⟩
        refine wapp_sb ti_30 rfl ti_3 (by kernel_rfl) (by decide) (by decide) (SB.nil) (bs := [[.int .i64 k]]) (by unfold srcRows; rw [if_pos rfl]; simp only [Mem.set_eq]; rfl) (by simp) (by simp) ?_
        obtain ⟨Z, hZ⟩ : ∃ Z : List (List Lf), [[.int .i64 k]] = Z := ⟨_, rfl⟩
        have hZl : Z.length = 1 := by rw [← hZ]; simp
        simp only [dl, List.map_nil, List.nil_append, List.length_nil, List.length_cons, Nat.zero_add]
        rw [hZ]
        simp -implicitDefEqProofs (maxSteps := 1000000) (disch := omega) only [↓xsP, ↓vc_seq, xsQ, xsT, xsR, xsD, ↓reduceIte, reduceCtorEq, eq_self, ne_eq, imp_self, forall_const, Nat.reduceEqDiff, Nat.reduceAdd, Nat.reduceSub, Nat.reduceMul, Nat.reduceLT, Nat.reduceLeDiff, Nat.reduceBEq, Nat.reduceDiv, Nat.reduceMod, Int.reduceToNat, Int.reduceNeg, Int.reduceAdd, Int.reduceSub, Int.reduceMul, Int.reduceEq, Int.reduceNe, Int.reduceLT, Int.reduceLE, Int.reduceGT, Int.reduceGE, hN3, hN7, hle, hri, hke]
        refine ⟨.inl (by decide), ?_⟩
        have hsb : ∀ X : Mem, X (n0 + 11) = some (.cells 3 Z 0) → SB 3 X (.ms (n0 + 11) 0 (1)) Z (X.del (n0 + 11)) := fun X hX => by
          have := SB.ms (T := 3) hX
          rw [hZl] at this
          exact this
        refine wcall_new (1 + R.keys.length) (.cells 3 (Z ++ R.keys.map irow) 0) [n0 + 11] (fun M' hle => (h2 Z _ M' _ (hsb M' (hle _ _ (Mem.set_eq _ _ _))) (by omega)).mono ?_) ?_
        · rintro r' M2 ⟨-, hr⟩
          obtain ⟨id', hid', rfl, rfl⟩ := hr hRl
          exact ⟨id', hid', by rw [hZl], Mem.le_refl _⟩
        simp -implicitDefEqProofs (maxSteps := 1000000) (disch := omega) only [↓xsP, ↓vc_seq, xsQ, xsT, xsR, xsD, ↓reduceIte, reduceCtorEq, eq_self, ne_eq, imp_self, forall_const, Nat.reduceEqDiff, Nat.reduceAdd, Nat.reduceSub, Nat.reduceMul, Nat.reduceLT, Nat.reduceLeDiff, Nat.reduceBEq, Nat.reduceDiv, Nat.reduceMod, Int.reduceToNat, Int.reduceNeg, Int.reduceAdd, Int.reduceSub, Int.reduceMul, Int.reduceEq, Int.reduceNe, Int.reduceLT, Int.reduceLE, Int.reduceGT, Int.reduceGE, hN3, hN7, hle, hri, hke]
        refine ⟨.inl (by decide), ?_⟩
        have hkl : (Tr.fork k L R).keys.length = L.keys.length + (R.keys.length + 1) := by simp [Tr.keys]
        have hrows : ([] : List (List Lf)) ++ (Tr.fork k L R).keys.map irow = Z ++ R.keys.map irow := by rw [← hZ]; simp [Tr.keys, irow, hLk]
        refine fin_ok (fun j bk hj => ?_) ⟨fun h => (by cases h), fun _ => ⟨n0 + 12, fun j hj => hNM _ (hn0 j (by omega)), ?_, rfl⟩⟩
        · rw [show (Tr.fork k L R).keys.map irow = Z ++ R.keys.map irow from hrows] at hj
          rw [Mem.set_app] at hj ⊢
          split at hj
          · rename_i e
            rw [if_pos e]
            exact hj
          · rename_i e
            obtain ⟨b1, b2⟩ := hMN _ _ hj
            rw [if_neg e]
            simp (disch := omega) only [Mem.set_ne, Mem.del_ne, b2]
        · refine congrArg (fun n => AV.l (.ms (n0 + 12) 0 n)) ?_
          have a1 : L.keys.length = 0 := by rw [hLk]; rfl
          try rw [List.length_nil]
          omega
      · have hLk : L.keys = [] := by cases L with | leaf _ _ => rfl | fork _ _ _ => cases hLl
        refine wcallI_eff (v := .l .nils) (e := []) (fun M' hle => (h1 ([] : List (List Lf)) .nils M' M' .nil (by simp only [List.length_nil]; omega)).mono ?_) ?_
        · rintro r' M2 ⟨hr, -⟩
          obtain ⟨rfl, rfl⟩ := hr hLl
          exact ⟨rfl, Mem.le_refl _⟩
        simp -implicitDefEqProofs (maxSteps := 1000000) (disch := omega) only [↓xsP, ↓vc_seq, xsQ, xsT, xsR, xsD, ↓reduceIte, reduceCtorEq, eq_self, ne_eq, imp_self, forall_const, Nat.reduceEqDiff, Nat.reduceAdd, Nat.reduceSub, Nat.reduceMul, Nat.reduceLT, Nat.reduceLeDiff, Nat.reduceBEq, Nat.reduceDiv, Nat.reduceMod, Int.reduceToNat, Int.reduceNeg, Int.reduceAdd, Int.reduceSub, Int.reduceMul, Int.reduceEq, Int.reduceNe, Int.reduceLT, Int.reduceLE, Int.reduceGT, Int.reduceGE, hN3, hN7, hle, hri, hke]
        refine ⟨.inl (by decide), ?_⟩
        refine wapp_sb ti_30 rfl ti_3 (by kernel_rfl) (by decide) (by decide) (SB.nil) (bs := [[.int .i64 k]]) (by unfold srcRows; rw [if_pos rfl]; simp only [Mem.set_eq]; rfl) (by simp) (by simp) ?_
        obtain ⟨Z, hZ⟩ : ∃ Z : List (List Lf), [[.int .i64 k]] = Z := ⟨_, rfl⟩
        have hZl : Z.length = 1 := by rw [← hZ]; simp
        simp only [dl, List.map_nil, List.nil_append, List.length_nil, List.length_cons, Nat.zero_add]
        rw [hZ]
        simp -implicitDefEqProofs (maxSteps := 1000000) (disch := omega) only [↓xsP, ↓vc_seq, xsQ, xsT, xsR, xsD, ↓reduceIte, reduceCtorEq, eq_self, ne_eq, imp_self, forall_const, Nat.reduceEqDiff, Nat.reduceAdd, Nat.reduceSub, Nat.reduceMul, Nat.reduceLT, Nat.reduceLeDiff, Nat.reduceBEq, Nat.reduceDiv, Nat.reduceMod, Int.reduceToNat, Int.reduceNeg, Int.reduceAdd, Int.reduceSub, Int.reduceMul, Int.reduceEq, Int.reduceNe, Int.reduceLT, Int.reduceLE, Int.reduceGT, Int.reduceGE, hN3, hN7, hle, hri, hke]
        refine ⟨.inl (by decide), ?_⟩
        have hRk : R.keys = [] := by cases R with | leaf _ _ => rfl | fork _ _ _ => cases hRl
        have hsb : ∀ X : Mem, X (n0 + 11) = some (.cells 3 Z 0) → SB 3 X (.ms (n0 + 11) 0 (1)) Z (X.del (n0 + 11)) := fun X hX => by
          have := SB.ms (T := 3) hX
          rw [hZl] at this
          exact this
        refine wcallI_eff (v := .l (.ms (n0 + 11) 0 (1))) (e := []) (fun M' hle => (h2 Z _ M' _ (hsb M' (hle _ _ (Mem.set_eq _ _ _))) (by omega)).mono ?_) ?_
        · rintro r' M2 ⟨hr, -⟩
          obtain ⟨rfl, rfl⟩ := hr hRl
          exact ⟨rfl, Mem.le_refl _⟩
        simp -implicitDefEqProofs (maxSteps := 1000000) (disch := omega) only [↓xsP, ↓vc_seq, xsQ, xsT, xsR, xsD, ↓reduceIte, reduceCtorEq, eq_self, ne_eq, imp_self, forall_const, Nat.reduceEqDiff, Nat.reduceAdd, Nat.reduceSub, Nat.reduceMul, Nat.reduceLT, Nat.reduceLeDiff, Nat.reduceBEq, Nat.reduceDiv, Nat.reduceMod, Int.reduceToNat, Int.reduceNeg, Int.reduceAdd, Int.reduceSub, Int.reduceMul, Int.reduceEq, Int.reduceNe, Int.reduceLT, Int.reduceLE, Int.reduceGT, Int.reduceGE, hN3, hN7, hle, hri, hke]
        have hkl : (Tr.fork k L R).keys.length = L.keys.length + (R.keys.length + 1) := by simp [Tr.keys]
        have hrows : ([] : List (List Lf)) ++ (Tr.fork k L R).keys.map irow = Z ++ R.keys.map irow := by rw [← hZ]; simp [Tr.keys, irow, hLk, hRk]
        refine fin_ok (fun j bk hj => ?_) ⟨fun h => (by cases h), fun _ => ⟨n0 + 11, fun j hj => hNM _ (hn0 j (by omega)), ?_, rfl⟩⟩
        · rw [show (Tr.fork k L R).keys.map irow = Z ++ R.keys.map irow from hrows, hRk, List.map_nil, List.append_nil] at hj
          rw [Mem.set_app] at hj ⊢
          split at hj
          · rename_i e
            rw [if_pos e]
            exact hj
          · rename_i e
            obtain ⟨b1, b2⟩ := hMN _ _ hj
            rw [if_neg e]
            simp (disch := omega) only [Mem.set_ne, Mem.del_ne, b2]
        · refine congrArg (fun n => AV.l (.ms (n0 + 11) 0 n)) ?_
          have a1 : L.keys.length = 0 := by rw [hLk]; rfl
          have a2 : R.keys.length = 0 := by rw [hRk]; rfl
          try rw [List.length_nil]
          omega
    | @ms idx _ hx =>
      have x3 : idx ≠ id3 := fun e => by rw [e, hN3] at hx; cases hx
      have x7 : idx ≠ id7 := fun e => by rw [e, hN7] at hx; cases hx
      refine xwrite (fun n0 => [ (7, idx), (11, idx), (11, n0 + 7), (12, n0 + 11)]) [7, 11, 11, 12] [7, 10, 11, 12] [[7, 11, 11], [7, 11, 11], [7, 11, 11], [], [], [], [], [], [7], [7], [7], [], [], []] (by kernel_rfl) (by kernel_rfl) (by kernel_rfl) (by kernel_rfl) (fun n0 hn0 => ⟨rfl, ?_, ?_⟩)
      · exact TOk_cons (.inl (lt_of_bnd hn0 hx)) (TOk_cons (.inl (lt_of_bnd hn0 hx)) (TOk_cons (.inr ⟨7, by decide, ⟨by decide, by decide⟩, rfl⟩) (TOk_cons (.inr ⟨11, by decide, ⟨by decide, by decide⟩, rfl⟩) (TOk_nil _ _))))
      have zx := lt_of_bnd hn0 hx
      have z3 := lt_of_bnd hn0 hN3
      have z7 := lt_of_bnd hn0 hN7
      simp -implicitDefEqProofs (maxSteps := 1000000) (disch := omega) only [↓xsP, ↓vc_seq, xsQ, xsT, xsR, xsD, ↓reduceIte, reduceCtorEq, eq_self, ne_eq, imp_self, forall_const, Nat.reduceEqDiff, Nat.reduceAdd, Nat.reduceSub, Nat.reduceMul, Nat.reduceLT, Nat.reduceLeDiff, Nat.reduceBEq, Nat.reduceDiv, Nat.reduceMod, Int.reduceToNat, Int.reduceNeg, Int.reduceAdd, Int.reduceSub, Int.reduceMul, Int.reduceEq, Int.reduceNe, Int.reduceLT, Int.reduceLE, Int.reduceGT, Int.reduceGE, hN3, hN7, hle, hri]
      cases hLl : L.isLeaf <;> cases hRl : R.isLeaf
      · refine wcall_new (rows.length + L.keys.length) (.cells 3 (rows ++ L.keys.map irow) 0) [idx] (fun M' hle => (h1 rows (.ms idx 0 rows.length) M' (M'.del idx) (.ms (hle _ _ hx)) (by omega)).mono ?_) ?_
        · rintro r' M2 ⟨-, hr⟩
          obtain ⟨id', hid', rfl, rfl⟩ := hr hLl
          exact ⟨id', hid', by simp, Mem.le_refl _⟩
        simp -implicitDefEqProofs (maxSteps := 1000000) (disch := omega) only [↓xsP, ↓vc_seq, xsQ, xsT, xsR, xsD, ↓reduceIte, reduceCtorEq, eq_self, ne_eq, imp_self, forall_const, Nat.reduceEqDiff, Nat.reduceAdd, Nat.reduceSub, Nat.reduceMul, Nat.reduceLT, Nat.reduceLeDiff, Nat.reduceBEq, Nat.reduceDiv, Nat.reduceMod, Int.reduceToNat, Int.reduceNeg, Int.reduceAdd, Int.reduceSub, Int.reduceMul, Int.reduceEq, Int.reduceNe, Int.reduceLT, Int.reduceLE, Int.reduceGT, Int.reduceGE, hN3, hN7, hle, hri, hke]
        refine ⟨.inl (by decide), ?_⟩
        refine ⟨.inl (by decide), ?_⟩
        refine wapp_ms _ _ _ _ _ 3 _ _ ti_30 rfl ti_3 (by kernel_rfl) (by decide) (n0 + 7) (rows.length + L.keys.length) _ (rows := rows ++ L.keys.map irow) (keep := 0) [[.int .i64 k]] (by simp (disch := omega) only [Mem.set_ne, Mem.set_eq]) (by unfold srcRows; rw [if_pos rfl]; simp only [Mem.set_eq]; rfl) (by simp) (Nat.zero_le _) (by show (rows.length + L.keys.length + 1) * 8 ≤ _; omega) (by show rows.length + L.keys.length + 1 ≤ _; omega) ?_
        rw [List.take_of_length_le (by simp)]
        obtain ⟨Z, hZ⟩ : ∃ Z : List (List Lf), rows ++ L.keys.map irow ++ [[.int .i64 k]] = Z := ⟨_, rfl⟩
        have hZl : Z.length = rows.length + L.keys.length + 1 := by rw [← hZ]; simp [Nat.add_assoc]
        rw [hZ]
        simp -implicitDefEqProofs (maxSteps := 1000000) (disch := omega) only [↓xsP, ↓vc_seq, xsQ, xsT, xsR, xsD, ↓reduceIte, reduceCtorEq, eq_self, ne_eq, imp_self, forall_const, Nat.reduceEqDiff, Nat.reduceAdd, Nat.reduceSub, Nat.reduceMul, Nat.reduceLT, Nat.reduceLeDiff, Nat.reduceBEq, Nat.reduceDiv, Nat.reduceMod, Int.reduceToNat, Int.reduceNeg, Int.reduceAdd, Int.reduceSub, Int.reduceMul, Int.reduceEq, Int.reduceNe, Int.reduceLT, Int.reduceLE, Int.reduceGT, Int.reduceGE, hN3, hN7, hle, hri, hke]
        refine ⟨.inl (by decide), ?_⟩
        have hsb : ∀ X : Mem, X (n0 + 11) = some (.cells 3 Z 0) → SB 3 X (.ms (n0 + 11) 0 (rows.length + L.keys.length + 1)) Z (X.del (n0 + 11)) := fun X hX => by
          have := SB.ms (T := 3) hX
          rw [hZl] at this
          exact this
        refine wcall_new (rows.length + L.keys.length + 1 + R.keys.length) (.cells 3 (Z ++ R.keys.map irow) 0) [n0 + 11] (fun M' hle => (h2 Z _ M' _ (hsb M' (hle _ _ (Mem.set_eq _ _ _))) (by omega)).mono ?_) ?_
        · rintro r' M2 ⟨-, hr⟩
          obtain ⟨id', hid', rfl, rfl⟩ := hr hRl
          exact ⟨id', hid', by rw [hZl], Mem.le_refl _⟩
        simp -implicitDefEqProofs (maxSteps := 1000000) (disch := omega) only [↓xsP, ↓vc_seq, xsQ, xsT, xsR, xsD, ↓reduceIte, reduceCtorEq, eq_self, ne_eq, imp_self, forall_const, Nat.reduceEqDiff, Nat.reduceAdd, Nat.reduceSub, Nat.reduceMul, Nat.reduceLT, Nat.reduceLeDiff, Nat.reduceBEq, Nat.reduceDiv, Nat.reduceMod, Int.reduceToNat, Int.reduceNeg, Int.reduceAdd, Int.reduceSub, Int.reduceMul, Int.reduceEq, Int.reduceNe, Int.reduceLT, Int.reduceLE, Int.reduceGT, Int.reduceGE, hN3, hN7, hle, hri, hke]
        refine ⟨.inl (by decide), ?_⟩
        have hkl : (Tr.fork k L R).keys.length = L.keys.length + (R.keys.length + 1) := by simp [Tr.keys]
        have hrows : rows ++ (Tr.fork k L R).keys.map irow = Z ++ R.keys.map irow := by rw [← hZ]; simp [Tr.keys, irow]
        refine fin_ok (fun j bk hj => ?_) ⟨fun h => (by cases h), fun _ => ⟨n0 + 12, fun j hj => hNM _ (hn0 j (by omega)), ?_, rfl⟩⟩
        · rw [hrows] at hj
          rw [Mem.set_app] at hj ⊢
          split at hj
          · rename_i e
            rw [if_pos e]
            exact hj
          · rename_i e
            obtain ⟨b1, b2⟩ := hMN _ _ hj
            have b4 := lt_of_bnd hn0 (show N j = some bk by rw [Mem.del_app] at b2; split at b2; cases b2; exact b2)
            have b3 : idx ≠ j := fun e => by rw [← e, Mem.del_app, if_pos rfl] at b2; cases b2
            rw [Mem.del_app, if_neg b3] at b2
            rw [if_neg e]
            simp (disch := omega) only [Mem.set_ne, Mem.del_ne, b2]
        · refine congrArg (fun n => AV.l (.ms (n0 + 12) 0 n)) ?_
          omega
      · refine wcall_new (rows.length + L.keys.length) (.cells 3 (rows ++ L.keys.map irow) 0) [idx] (fun M' hle => (h1 rows (.ms idx 0 rows.length) M' (M'.del idx) (.ms (hle _ _ hx)) (by omega)).mono ?_) ?_
        · rintro r' M2 ⟨-, hr⟩
          obtain ⟨id', hid', rfl, rfl⟩ := hr hLl
          exact ⟨id', hid', by simp, Mem.le_refl _⟩
        simp -implicitDefEqProofs (maxSteps := 1000000) (disch := omega) only [↓xsP, ↓vc_seq, xsQ, xsT, xsR, xsD, ↓reduceIte, reduceCtorEq, eq_self, ne_eq, imp_self, forall_const, Nat.reduceEqDiff, Nat.reduceAdd, Nat.reduceSub, Nat.reduceMul, Nat.reduceLT, Nat.reduceLeDiff, Nat.reduceBEq, Nat.reduceDiv, Nat.reduceMod, Int.reduceToNat, Int.reduceNeg, Int.reduceAdd, Int.reduceSub, Int.reduceMul, Int.reduceEq, Int.reduceNe, Int.reduceLT, Int.reduceLE, Int.reduceGT, Int.reduceGE, hN3, hN7, hle, hri, hke]
        refine ⟨.inl (by decide), ?_⟩
        refine ⟨.inl (by decide), ?_⟩
        refine wapp_ms _ _ _ _ _ 3 _ _ ti_30 rfl ti_3 (by kernel_rfl) (by decide) (n0 + 7) (rows.length + L.keys.length) _ (rows := rows ++ L.keys.map irow) (keep := 0) [[.int .i64 k]] (by simp (disch := omega) only [Mem.set_ne, Mem.set_eq]) (by unfold srcRows; rw [if_pos rfl]; simp only [Mem.set_eq]; rfl) (by simp) (Nat.zero_le _) (by show (rows.length + L.keys.length + 1) * 8 ≤ _; omega) (by show rows.length + L.keys.length + 1 ≤ _; omega) ?_
        rw [List.take_of_length_le (by simp)]
        obtain ⟨Z, hZ⟩ : ∃ Z : List (List Lf), rows ++ L.keys.map irow ++ [[.int .i64 k]] = Z := ⟨_, rfl⟩
        have hZl : Z.length = rows.length + L.keys.length + 1 := by rw [← hZ]; simp [Nat.add_assoc]
        rw [hZ]
        simp -implicitDefEqProofs (maxSteps := 1000000) (disch := omega) only [↓xsP, ↓vc_seq, xsQ, xsT, xsR, xsD, ↓reduceIte, reduceCtorEq, eq_self, ne_eq, imp_self, forall_const, Nat.reduceEqDiff, Nat.reduceAdd, Nat.reduceSub, Nat.reduceMul, Nat.reduceLT, Nat.reduceLeDiff, Nat.reduceBEq, Nat.reduceDiv, Nat.reduceMod, Int.reduceToNat, Int.reduceNeg, Int.reduceAdd, Int.reduceSub, Int.reduceMul, Int.reduceEq, Int.reduceNe, Int.reduceLT, Int.reduceLE, Int.reduceGT, Int.reduceGE, hN3, hN7, hle, hri, hke]
        refine ⟨.inl (by decide), ?_⟩
        have hRk : R.keys = [] := by cases R with | leaf _ _ => rfl | fork _ _ _ => cases hRl
        have hsb : ∀ X : Mem, X (n0 + 11) = some (.cells 3 Z 0) → SB 3 X (.ms (n0 + 11) 0 (rows.length + L.keys.length + 1)) Z (X.del (n0 + 11)) := fun X hX => by
          have := SB.ms (T := 3) hX
          rw [hZl] at this
          exact this
        refine wcallI_eff (v := .l (.ms (n0 + 11) 0 (rows.length + L.keys.length + 1))) (e := []) (fun M' hle => (h2 Z _ M' _ (hsb M' (hle _ _ (Mem.set_eq _ _ _))) (by omega)).mono ?_) ?_
        · rintro r' M2 ⟨hr, -⟩
          obtain ⟨rfl, rfl⟩ := hr hRl
          exact ⟨rfl, Mem.le_refl _⟩
        simp -implicitDefEqProofs (maxSteps := 1000000) (disch := omega) only [↓xsP, ↓vc_seq, xsQ, xsT, xsR, xsD, ↓reduceIte, reduceCtorEq, eq_self, ne_eq, imp_self, forall_const, Nat.reduceEqDiff, Nat.reduceAdd, Nat.reduceSub, Nat.reduceMul, Nat.reduceLT, Nat.reduceLeDiff, Nat.reduceBEq, Nat.reduceDiv, Nat.reduceMod, Int.reduceToNat, Int.reduceNeg, Int.reduceAdd, Int.reduceSub, Int.reduceMul, Int.reduceEq, Int.reduceNe, Int.reduceLT, Int.reduceLE, Int.reduceGT, Int.reduceGE, hN3, hN7, hle, hri, hke]
        have hkl : (Tr.fork k L R).keys.length = L.keys.length + (R.keys.length + 1) := by simp [Tr.keys]
        have hrows : rows ++ (Tr.fork k L R).keys.map irow = Z ++ R.keys.map irow := by rw [← hZ]; simp [Tr.keys, irow, hRk]
        refine fin_ok (fun j bk hj => ?_) ⟨fun h => (by cases h), fun _ => ⟨n0 + 11, fun j hj => hNM _ (hn0 j (by omega)), ?_, rfl⟩⟩
        · rw [hrows, hRk, List.map_nil, List.append_nil] at hj
          rw [Mem.set_app] at hj ⊢
          split at hj
          · rename_i e
            rw [if_pos e]
            exact hj
          · rename_i e
            obtain ⟨b1, b2⟩ := hMN _ _ hj
            have b4 := lt_of_bnd hn0 (show N j = some bk by rw [Mem.del_app] at b2; split at b2; cases b2; exact b2)
            have b3 : idx ≠ j := fun e => by rw [← e, Mem.del_app, if_pos rfl] at b2; cases b2
            rw [Mem.del_app, if_neg b3] at b2
            rw [if_neg e]
            simp (disch := omega) only [Mem.set_ne, Mem.del_ne, b2]
        · refine congrArg (fun n => AV.l (.ms (n0 + 11) 0 n)) ?_
          have a2 : R.keys.length = 0 := by rw [hRk]; rfl
          omega
      · have hLk : L.keys = [] := by cases L with | leaf _ _ => rfl | fork _ _ _ => cases hLl
        refine wcallI_eff (v := .l (.ms idx 0 rows.length)) (e := []) (fun M' hle => (h1 rows (.ms idx 0 rows.length) M' (M'.del idx) (.ms (hle _ _ hx)) (by omega)).mono ?_) ?_
        · rintro r' M2 ⟨hr, -⟩
          obtain ⟨rfl, rfl⟩ := hr hLl
          exact ⟨rfl, Mem.le_refl _⟩
        simp -implicitDefEqProofs (maxSteps := 1000000) (disch := omega) only [↓xsP, ↓vc_seq, xsQ, xsT, xsR, xsD, ↓reduceIte, reduceCtorEq, eq_self, ne_eq, imp_self, forall_const, Nat.reduceEqDiff, Nat.reduceAdd, Nat.reduceSub, Nat.reduceMul, Nat.reduceLT, Nat.reduceLeDiff, Nat.reduceBEq, Nat.reduceDiv, Nat.reduceMod, Int.reduceToNat, Int.reduceNeg, Int.reduceAdd, Int.reduceSub, Int.reduceMul, Int.reduceEq, Int.reduceNe, Int.reduceLT, Int.reduceLE, Int.reduceGT, Int.reduceGE, hN3, hN7, hle, hri, hke]
        refine ⟨.inl (by decide), ?_⟩
        refine wapp_ms _ _ _ _ _ 3 _ _ ti_30 rfl ti_3 (by kernel_rfl) (by decide) (idx) (rows.length) _ (rows := rows) (keep := 0) [[.int .i64 k]] (by rw [Mem.set_ne _ _ _ _ (by omega)]; exact hx) (by unfold srcRows; rw [if_pos rfl]; simp only [Mem.set_eq]; rfl) (by simp) (Nat.zero_le _) (by show (rows.length + 1) * 8 ≤ _; omega) (by show rows.length + 1 ≤ _; omega) ?_
        rw [List.take_of_length_le (by simp)]
        obtain ⟨Z, hZ⟩ : ∃ Z : List (List Lf), rows ++ [[.int .i64 k]] = Z := ⟨_, rfl⟩
        have hZl : Z.length = rows.length + 1 := by rw [← hZ]; simp [Nat.add_assoc]
        rw [hZ]
        simp -implicitDefEqProofs (maxSteps := 1000000) (disch := omega) only [↓xsP, ↓vc_seq, xsQ, xsT, xsR, xsD, ↓reduceIte, reduceCtorEq, eq_self, ne_eq, imp_self, forall_const, Nat.reduceEqDiff, Nat.reduceAdd, Nat.reduceSub, Nat.reduceMul, Nat.reduceLT, Nat.reduceLeDiff, Nat.reduceBEq, Nat.reduceDiv, Nat.reduceMod, Int.reduceToNat, Int.reduceNeg, Int.reduceAdd, Int.reduceSub, Int.reduceMul, Int.reduceEq, Int.reduceNe, Int.reduceLT, Int.reduceLE, Int.reduceGT, Int.reduceGE, hN3, hN7, hle, hri, hke]
        refine ⟨.inl (by decide), ?_⟩
        have hsb : ∀ X : Mem, X (n0 + 11) = some (.cells 3 Z 0) → SB 3 X (.ms (n0 + 11) 0 (rows.length + 1)) Z (X.del (n0 + 11)) := fun X hX => by
          have := SB.ms (T := 3) hX
          rw [hZl] at this
          exact this
        refine wcall_new (rows.length + 1 + R.keys.length) (.cells 3 (Z ++ R.keys.map irow) 0) [n0 + 11] (fun M' hle => (h2 Z _ M' _ (hsb M' (hle _ _ (Mem.set_eq _ _ _))) (by omega)).mono ?_) ?_
        · rintro r' M2 ⟨-, hr⟩
          obtain ⟨id', hid', rfl, rfl⟩ := hr hRl
          exact ⟨id', hid', by rw [hZl], Mem.le_refl _⟩
        simp -implicitDefEqProofs (maxSteps := 1000000) (disch := omega) only [↓xsP, ↓vc_seq, xsQ, xsT, xsR, xsD, ↓reduceIte, reduceCtorEq, eq_self, ne_eq, imp_self, forall_const, Nat.reduceEqDiff, Nat.reduceAdd, Nat.reduceSub, Nat.reduceMul, Nat.reduceLT, Nat.reduceLeDiff, Nat.reduceBEq, Nat.reduceDiv, Nat.reduceMod, Int.reduceToNat, Int.reduceNeg, Int.reduceAdd, Int.reduceSub, Int.reduceMul, Int.reduceEq, Int.reduceNe, Int.reduceLT, Int.reduceLE, Int.reduceGT, Int.reduceGE, hN3, hN7, hle, hri, hke]
        refine ⟨.inl (by decide), ?_⟩
        have hkl : (Tr.fork k L R).keys.length = L.keys.length + (R.keys.length + 1) := by simp [Tr.keys]
        have hrows : rows ++ (Tr.fork k L R).keys.map irow = Z ++ R.keys.map irow := by rw [← hZ]; simp [Tr.keys, irow, hLk]
        refine fin_ok (fun j bk hj => ?_) ⟨fun h => (by cases h), fun _ => ⟨n0 + 12, fun j hj => hNM _ (hn0 j (by omega)), ?_, rfl⟩⟩
        · rw [hrows] at hj
          rw [Mem.set_app] at hj ⊢
          split at hj
          · rename_i e
            rw [if_pos e]
            exact hj
          · rename_i e
            obtain ⟨b1, b2⟩ := hMN _ _ hj
            have b4 := lt_of_bnd hn0 (show N j = some bk by rw [Mem.del_app] at b2; split at b2; cases b2; exact b2)
            have b3 : idx ≠ j := fun e => by rw [← e, Mem.del_app, if_pos rfl] at b2; cases b2
            rw [Mem.del_app, if_neg b3] at b2
            rw [if_neg e]
            simp (disch := omega) only [Mem.set_ne, Mem.del_ne, b2]
        · refine congrArg (fun n => AV.l (.ms (n0 + 12) 0 n)) ?_
          have a1 : L.keys.length = 0 := by rw [hLk]; rfl
          omega
      · have hLk : L.keys = [] := by cases L with | leaf _ _ => rfl | fork _ _ _ => cases hLl
        refine wcallI_eff (v := .l (.ms idx 0 rows.length)) (e := []) (fun M' hle => (h1 rows (.ms idx 0 rows.length) M' (M'.del idx) (.ms (hle _ _ hx)) (by omega)).mono ?_) ?_
        · rintro r' M2 ⟨hr, -⟩
          obtain ⟨rfl, rfl⟩ := hr hLl
          exact ⟨rfl, Mem.le_refl _⟩
        simp -implicitDefEqProofs (maxSteps := 1000000) (disch := omega) only [↓xsP, ↓vc_seq, xsQ, xsT, xsR, xsD, ↓reduceIte, reduceCtorEq, eq_self, ne_eq, imp_self, forall_const, Nat.reduceEqDiff, Nat.reduceAdd, Nat.reduceSub, Nat.reduceMul, Nat.reduceLT, Nat.reduceLeDiff, Nat.reduceBEq, Nat.reduceDiv, Nat.reduceMod, Int.reduceToNat, Int.reduceNeg, Int.reduceAdd, Int.reduceSub, Int.reduceMul, Int.reduceEq, Int.reduceNe, Int.reduceLT, Int.reduceLE, Int.reduceGT, Int.reduceGE, hN3, hN7, hle, hri, hke]
        refine ⟨.inl (by decide), ?_⟩
        refine wapp_ms _ _ _ _ _ 3 _ _ ti_30 rfl ti_3 (by kernel_rfl) (by decide) (idx) (rows.length) _ (rows := rows) (keep := 0) [[.int .i64 k]] (by rw [Mem.set_ne _ _ _ _ (by omega)]; exact hx) (by unfold srcRows; rw [if_pos rfl]; simp only [Mem.set_eq]; rfl) (by simp) (Nat.zero_le _) (by show (rows.length + 1) * 8 ≤ _; omega) (by show rows.length + 1 ≤ _; omega) ?_
        rw [List.take_of_length_le (by simp)]
        obtain ⟨Z, hZ⟩ : ∃ Z : List (List Lf), rows ++ [[.int .i64 k]] = Z := ⟨_, rfl⟩
        have hZl : Z.length = rows.length + 1 := by rw [← hZ]; simp [Nat.add_assoc]
        rw [hZ]
        simp -implicitDefEqProofs (maxSteps := 1000000) (disch := omega) only [↓xsP, ↓vc_seq, xsQ, xsT, xsR, xsD, ↓reduceIte, reduceCtorEq, eq_self, ne_eq, imp_self, forall_const, Nat.reduceEqDiff, Nat.reduceAdd, Nat.reduceSub, Nat.reduceMul, Nat.reduceLT, Nat.reduceLeDiff, Nat.reduceBEq, Nat.reduceDiv, Nat.reduceMod, Int.reduceToNat, Int.reduceNeg, Int.reduceAdd, Int.reduceSub, Int.reduceMul, Int.reduceEq, Int.reduceNe, Int.reduceLT, Int.reduceLE, Int.reduceGT, Int.reduceGE, hN3, hN7, hle, hri, hke]
        refine ⟨.inl (by decide), ?_⟩
        have hRk : R.keys = [] := by cases R with | leaf _ _ => rfl | fork _ _ _ => cases hRl
        have hsb : ∀ X : Mem, X (n0 + 11) = some (.cells 3 Z 0) → SB 3 X (.ms (n0 + 11) 0 (rows.length + 1)) Z (X.del (n0 + 11)) := fun X hX => by
          have := SB.ms (T := 3) hX
          rw [hZl] at this
          exact this
        refine wcallI_eff (v := .l (.ms (n0 + 11) 0 (rows.length + 1))) (e := []) (fun M' hle => (h2 Z _ M' _ (hsb M' (hle _ _ (Mem.set_eq _ _ _))) (by omega)).mono ?_) ?_
        · rintro r' M2 ⟨hr, -⟩
          obtain ⟨rfl, rfl⟩ := hr hRl
          exact ⟨rfl, Mem.le_refl _⟩
        simp -implicitDefEqProofs (maxSteps := 1000000) (disch := omega) only [↓xsP, ↓vc_seq, xsQ, xsT, xsR, xsD, ↓reduceIte, reduceCtorEq, eq_self, ne_eq, imp_self, forall_const, Nat.reduceEqDiff, Nat.reduceAdd, Nat.reduceSub, Nat.reduceMul, Nat.reduceLT, Nat.reduceLeDiff, Nat.reduceBEq, Nat.reduceDiv, Nat.reduceMod, Int.reduceToNat, Int.reduceNeg, Int.reduceAdd, Int.reduceSub, Int.reduceMul, Int.reduceEq, Int.reduceNe, Int.reduceLT, Int.reduceLE, Int.reduceGT, Int.reduceGE, hN3, hN7, hle, hri, hke]
        have hkl : (Tr.fork k L R).keys.length = L.keys.length + (R.keys.length + 1) := by simp [Tr.keys]
        have hrows : rows ++ (Tr.fork k L R).keys.map irow = Z ++ R.keys.map irow := by rw [← hZ]; simp [Tr.keys, irow, hLk, hRk]
        refine fin_ok (fun j bk hj => ?_) ⟨fun h => (by cases h), fun _ => ⟨n0 + 11, fun j hj => hNM _ (hn0 j (by omega)), ?_, rfl⟩⟩
        · rw [hrows, hRk, List.map_nil, List.append_nil] at hj
          rw [Mem.set_app] at hj ⊢
          split at hj
          · rename_i e
            rw [if_pos e]
            exact hj
          · rename_i e
            obtain ⟨b1, b2⟩ := hMN _ _ hj
            have b4 := lt_of_bnd hn0 (show N j = some bk by rw [Mem.del_app] at b2; split at b2; cases b2; exact b2)
            have b3 : idx ≠ j := fun e => by rw [← e, Mem.del_app, if_pos rfl] at b2; cases b2
            rw [Mem.del_app, if_neg b3] at b2
            rw [if_neg e]
            simp (disch := omega) only [Mem.set_ne, Mem.del_ne, b2]
        · refine congrArg (fun n => AV.l (.ms (n0 + 11) 0 n)) ?_
          have a1 : L.keys.length = 0 := by rw [hLk]; rfl
          have a2 : R.keys.length = 0 := by rw [hRk]; rfl
          omega
end Go.X
