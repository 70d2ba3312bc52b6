/- Texts joined: Gj Gk. -/
import Derived.Test.YtjhpfaiiknpnmaaY4
set_option linter.unusedVariables false
set_option linter.unusedSimpArgs false
set_option maxHeartbeats 20000000
set_option maxRecDepth 100000
namespace Go.X
open Go.Proofs.Try (prog)

/-! ### arrays -/
def arr {α : Type} (row : α → List Lf) (l : List α) : List Lf := (l.map row).flatten
theorem arr_len {α : Type} {row : α → List Lf} {n : Nat} (h : ∀ a, (row a).length = n) : ∀ l : List α, (arr row l).length = n * l.length
  | [] => rfl
  | a :: l => by
    have ih := arr_len h l
    rw [arr] at ih ⊢
    rw [List.map_cons, List.flatten_cons, List.length_append, ih, h, List.length_cons, Nat.mul_add, Nat.mul_one, Nat.add_comm]
theorem arr_drop {α : Type} {row : α → List Lf} {n : Nat} (h : ∀ a, (row a).length = n) (d : α) : ∀ (l : List α) (t : Nat), t < l.length → (arr row l).drop (t * n) = row (l.getD t d) ++ (arr row l).drop (t * n + n)
  | [], t, ht => by simp at ht
  | a :: l, 0, _ => by
    have := h a
    simp only [arr, List.map_cons, List.flatten_cons, Nat.zero_mul, Nat.zero_add, List.drop_zero, List.getD_cons_zero]
    rw [← this, List.drop_left]
  | a :: l, t + 1, ht => by
    have ih := arr_drop h d l t (by simpa using ht)
    have := h a
    have e : (t + 1) * n = (row a).length + t * n := by rw [this, Nat.add_mul]; omega
    have e2 : (t + 1) * n + n = (row a).length + (t * n + n) := by rw [e]; omega
    simp only [arr, List.map_cons, List.flatten_cons, List.getD_cons_succ] at ih ⊢
    rw [e2, e, List.drop_length_add_append, List.drop_length_add_append, ih]
theorem arr_set {α : Type} {row : α → List Lf} {n : Nat} (h : ∀ a, (row a).length = n) (x : α) : ∀ (l : List α) (t : Nat), t < l.length → (arr row l).take (t * n) ++ row x ++ (arr row l).drop (t * n + n) = arr row (l.set t x)
  | [], t, ht => by simp at ht
  | a :: l, 0, _ => by
    have := h a
    simp only [arr, List.map_cons, List.flatten_cons, Nat.zero_mul, Nat.zero_add, List.take_zero, List.nil_append, List.set_cons_zero]
    rw [← this, List.drop_left]
  | a :: l, t + 1, ht => by
    have ih := arr_set h x l t (by simpa using ht)
    have := h a
    have e : (t + 1) * n = (row a).length + t * n := by rw [this, Nat.add_mul]; omega
    have e2 : (t + 1) * n + n = (row a).length + (t * n + n) := by rw [e]; omega
    simp only [arr, List.map_cons, List.flatten_cons, List.set_cons_succ] at ih ⊢
    rw [e2, e, List.take_length_add_append, List.drop_length_add_append, List.append_assoc, List.append_assoc, ← ih, List.append_assoc]
def brow (b : Bool) : List Lf := [.bool b]

/-! ### the witness beside what the caller writes -/
theorem WIn.grow {B M : Mem} {id mid : Nat} {o : Lf} {W : Wit} (h : WIn B M id mid o W) {i : Nat} (hi : ∀ j, i ≤ j → M j = none) (X : Blk) : WIn (B.set i X) (M.set i X) id mid o W ∧ ∀ j, i ≤ j → B j = none := by
  refine ⟨h.ext hi X, fun j hj => ?_⟩
  cases hm : B j with
  | none => rfl
  | some bk => have := hi j hj; rw [h.le _ _ hm] at this; cases this
/-- The caller writes a block that it keeps. -/
theorem WIn.put {B M : Mem} {id mid : Nat} {o : Lf} {W : Wit} (h : WIn B M id mid o W) {i : Nat} {Y : Blk} (hi : B i = some Y) (X : Blk) : WIn (B.set i X) (M.set i X) id mid o W := by
  have n1 : i ≠ id := fun e => by rw [e, h.nid] at hi; cases hi
  have n2 : i ≠ mid := fun e => by rw [e, h.nmid] at hi; cases hi
  refine ⟨fun k bk hk => ?_, by rw [Mem.set_ne _ _ _ _ n1]; exact h.nid, by rw [Mem.set_ne _ _ _ _ n2]; exact h.nmid, h.ne, h.six, by rw [Mem.set_ne _ _ _ _ n1]; exact h.own, by rw [Mem.set_ne _ _ _ _ n2]; exact h.map, ?_⟩
  · rw [Mem.set_app] at hk ⊢
    split
    · rename_i e
      rw [if_pos e] at hk
      exact hk
    · rename_i e
      rw [if_neg e] at hk
      exact h.le _ _ hk
  · rcases h.ord with h1 | ⟨idO, a1, a2, a3, a4, a5⟩
    · exact .inl h1
    · have n3 : i ≠ idO := fun e => by rw [e, a1] at hi; cases hi
      exact .inr ⟨idO, by rw [Mem.set_ne _ _ _ _ n3]; exact a1, a2, a3, a4, by rw [Mem.set_ne _ _ _ _ n3]; exact a5⟩
/-- The caller appends to a block that it keeps: it lies elsewhere then. -/
theorem WIn.app {B M : Mem} {id mid : Nat} {o : Lf} {W : Wit} (h : WIn B M id mid o W) {i : Nat} {Y : Blk} (hi : B i = some Y) {n : Nat} (hn : ∀ j, n ≤ j → M j = none) (X : Blk) : WIn ((B.del i).set n X) ((M.del i).set n X) id mid o W := by
  have n1 : i ≠ id := fun e => by rw [e, h.nid] at hi; cases hi
  have n2 : i ≠ mid := fun e => by rw [e, h.nmid] at hi; cases hi
  have m1 := lt_of_bnd hn h.own
  have m2 := lt_of_bnd hn h.map
  refine ⟨fun k bk hk => ?_, ?_, ?_, h.ne, h.six, ?_, ?_, ?_⟩
  · rw [Mem.set_app] at hk ⊢
    split
    · rename_i e
      rw [if_pos e] at hk
      exact hk
    · rename_i e
      rw [if_neg e, Mem.del_app] at hk
      split at hk
      · cases hk
      · rename_i e2
        rw [Mem.del_app, if_neg e2]
        exact h.le _ _ hk
  · rw [Mem.set_ne _ _ _ _ (by omega), Mem.del_ne _ _ _ n1]
    exact h.nid
  · rw [Mem.set_ne _ _ _ _ (by omega), Mem.del_ne _ _ _ n2]
    exact h.nmid
  · rw [Mem.set_ne _ _ _ _ (by omega), Mem.del_ne _ _ _ n1]
    exact h.own
  · rw [Mem.set_ne _ _ _ _ (by omega), Mem.del_ne _ _ _ n2]
    exact h.map
  · rcases h.ord with h1 | ⟨idO, a1, a2, a3, a4, a5⟩
    · exact .inl h1
    · have n3 : i ≠ idO := fun e => by rw [e, a1] at hi; cases hi
      have m3 := lt_of_bnd hn a5
      exact .inr ⟨idO, by rw [Mem.set_ne _ _ _ _ (by omega), Mem.del_ne _ _ _ n3]; exact a1, a2, a3, a4, by rw [Mem.set_ne _ _ _ _ (by omega), Mem.del_ne _ _ _ n3]; exact a5⟩

/-! ### the locals -/
structure Loc where
  on : List Bool
  done : List Bool
  op : List Opn
  told : List Ans
  num : List Int
def bB (l : List Bool) : Blk := .cells 71 [arr brow l] 0
def bO (l : List Opn) : Blk := .cells 72 [arr Opn.row l] 0
def bT (l : List Ans) : Blk := .cells 73 [arr Ans.row l] 0
def bN (l : List Int) : Blk := .cells 74 [arr irow l] 0
theorem bB_fold (l : List Bool) : Blk.cells 71 [arr brow l] 0 = bB l := rfl
theorem bO_fold (l : List Opn) : Blk.cells 72 [arr Opn.row l] 0 = bO l := rfl
theorem bT_fold (l : List Ans) : Blk.cells 73 [arr Ans.row l] 0 = bT l := rfl
theorem bN_fold (l : List Int) : Blk.cells 74 [arr irow l] 0 = bN l := rfl
structure Ids where
  a : Nat
  b : Nat
  c : Nat
  d : Nat
  e : Nat
structure LocB (M B : Mem) (p : Ids) (xf xh xw : Lf) (b0 : List Pr) (L : Loc) (h : List Evt) (w : List Int) : Prop where
  le : M.le B
  na : M p.a = none
  nb : M p.b = none
  nc : M p.c = none
  nd : M p.d = none
  ne : M p.e = none
  ab : p.a ≠ p.b
  ma : B p.a = some (bB L.on)
  mb : B p.b = some (bB L.done)
  mc : B p.c = some (bO L.op)
  md : B p.d = some (bT L.told)
  me : B p.e = some (bN L.num)
  la : L.on.length = 6
  lb : L.done.length = 6
  lc : L.op.length = 6
  ld : L.told.length = 6
  le' : L.num.length = 6
  xf : ∃ i, M i = none ∧ B i = some (.cells 26 (b0.map Pr.row) b0.length) ∧ xf = .ms i 0 b0.length
  xh : (h = [] ∧ xh = .nils) ∨ ∃ i rs, M i = none ∧ B i = some (.cells 65 rs 0) ∧ rs.map (fun r => r.map wkL) = h.map Evt.row ∧ xh = .ms i 0 h.length
  xw : (w = [] ∧ xw = .nils) ∨ ∃ i, M i = none ∧ B i = some (.cells 3 (w.map irow) 0) ∧ xw = .ms i 0 w.length
theorem set_keep {B : Mem} {i k : Nat} {X bk : Blk} (h : B k = some bk) (hn : B i ≠ some bk) : (B.set i X) k = some bk := by
  rw [Mem.set_ne _ _ _ _ (fun e => hn (by rw [e]; exact h))]
  exact h
theorem del_keep {B : Mem} {i k : Nat} {bk : Blk} (h : B k = some bk) (hn : B i ≠ some bk) : (B.del i) k = some bk := by
  rw [Mem.del_ne _ _ _ (fun e => hn (by rw [e]; exact h))]
  exact h
section
variable {M B : Mem} {p : Ids} {xf xh xw : Lf} {b0 : List Pr} {L : Loc} {h : List Evt} {w : List Int}
theorem LocB.grow (I : LocB M B p xf xh xw b0 L h w) {i : Nat} (hi : B i = none) (X : Blk) : LocB M (B.set i X) p xf xh xw b0 L h w := by
  have hk : ∀ k bk, B k = some bk → (B.set i X) k = some bk := fun k bk hk => set_keep hk (by rw [hi]; simp)
  exact ⟨fun k bk h1 => hk _ _ (I.le _ _ h1), I.na, I.nb, I.nc, I.nd, I.ne, I.ab, hk _ _ I.ma, hk _ _ I.mb, hk _ _ I.mc, hk _ _ I.md, hk _ _ I.me, I.la, I.lb, I.lc, I.ld, I.le',
    (by obtain ⟨j, h0, h1, h2⟩ := I.xf; exact ⟨j, h0, hk _ _ h1, h2⟩),
    (by rcases I.xh with h1 | ⟨j, rs, h0, h1, h2⟩; exact .inl h1; exact .inr ⟨j, rs, h0, hk _ _ h1, h2⟩),
    (by rcases I.xw with h1 | ⟨j, h0, h1, h2⟩; exact .inl h1; exact .inr ⟨j, h0, hk _ _ h1, h2⟩)⟩
theorem LocB.on (I : LocB M B p xf xh xw b0 L h w) {l : List Bool} (hl : l.length = 6) : LocB M (B.set p.a (bB l)) p xf xh xw b0 { L with on := l } h w := by
  have hm := I.ma
  have hk : ∀ k bk, p.a ≠ k → B k = some bk → (B.set p.a (bB l)) k = some bk := fun k bk h1 h2 => by rw [Mem.set_ne _ _ _ _ h1]; exact h2
  have hk2 : ∀ k T rs kp, B k = some (.cells T rs kp) → T ≠ 71 → (B.set p.a (bB l)) k = some (.cells T rs kp) := fun k T rs kp h1 h2 => set_keep h1 (by rw [hm]; intro e; simp only [bB, Option.some.injEq, Blk.cells.injEq] at e; exact h2 e.1.symm)
  exact ⟨fun k bk h1 => hk _ _ (fun e => by rw [← e, I.na] at h1; cases h1) (I.le _ _ h1), I.na, I.nb, I.nc, I.nd, I.ne, I.ab, Mem.set_eq _ _ _, hk _ _ I.ab I.mb, hk2 _ _ _ _ I.mc (by decide), hk2 _ _ _ _ I.md (by decide), hk2 _ _ _ _ I.me (by decide), hl, I.lb, I.lc, I.ld, I.le',
    (by obtain ⟨j, h0, h1, h2⟩ := I.xf; exact ⟨j, h0, hk2 _ _ _ _ h1 (by decide), h2⟩),
    (by rcases I.xh with h1 | ⟨j, rs, h0, h1, h2⟩; exact .inl h1; exact .inr ⟨j, rs, h0, hk2 _ _ _ _ h1 (by decide), h2⟩),
    (by rcases I.xw with h1 | ⟨j, h0, h1, h2⟩; exact .inl h1; exact .inr ⟨j, h0, hk2 _ _ _ _ h1 (by decide), h2⟩)⟩
theorem LocB.done (I : LocB M B p xf xh xw b0 L h w) {l : List Bool} (hl : l.length = 6) : LocB M (B.set p.b (bB l)) p xf xh xw b0 { L with done := l } h w := by
  have hm := I.mb
  have hk : ∀ k bk, p.b ≠ k → B k = some bk → (B.set p.b (bB l)) k = some bk := fun k bk h1 h2 => by rw [Mem.set_ne _ _ _ _ h1]; exact h2
  have hk2 : ∀ k T rs kp, B k = some (.cells T rs kp) → T ≠ 71 → (B.set p.b (bB l)) k = some (.cells T rs kp) := fun k T rs kp h1 h2 => set_keep h1 (by rw [hm]; intro e; simp only [bB, Option.some.injEq, Blk.cells.injEq] at e; exact h2 e.1.symm)
  exact ⟨fun k bk h1 => hk _ _ (fun e => by rw [← e, I.nb] at h1; cases h1) (I.le _ _ h1), I.na, I.nb, I.nc, I.nd, I.ne, I.ab, hk _ _ I.ab.symm I.ma, Mem.set_eq _ _ _, hk2 _ _ _ _ I.mc (by decide), hk2 _ _ _ _ I.md (by decide), hk2 _ _ _ _ I.me (by decide), I.la, hl, I.lc, I.ld, I.le',
    (by obtain ⟨j, h0, h1, h2⟩ := I.xf; exact ⟨j, h0, hk2 _ _ _ _ h1 (by decide), h2⟩),
    (by rcases I.xh with h1 | ⟨j, rs, h0, h1, h2⟩; exact .inl h1; exact .inr ⟨j, rs, h0, hk2 _ _ _ _ h1 (by decide), h2⟩),
    (by rcases I.xw with h1 | ⟨j, h0, h1, h2⟩; exact .inl h1; exact .inr ⟨j, h0, hk2 _ _ _ _ h1 (by decide), h2⟩)⟩
theorem LocB.op (I : LocB M B p xf xh xw b0 L h w) {l : List Opn} (hl : l.length = 6) : LocB M (B.set p.c (bO l)) p xf xh xw b0 { L with op := l } h w := by
  have hm := I.mc
  have hk2 : ∀ k T rs kp, B k = some (.cells T rs kp) → T ≠ 72 → (B.set p.c (bO l)) k = some (.cells T rs kp) := fun k T rs kp h1 h2 => set_keep h1 (by rw [hm]; intro e; simp only [bO, Option.some.injEq, Blk.cells.injEq] at e; exact h2 e.1.symm)
  exact ⟨fun k bk h1 => by rw [Mem.set_ne _ _ _ _ (fun e => by rw [← e, I.nc] at h1; cases h1)]; exact I.le _ _ h1, I.na, I.nb, I.nc, I.nd, I.ne, I.ab, hk2 _ _ _ _ I.ma (by decide), hk2 _ _ _ _ I.mb (by decide), Mem.set_eq _ _ _, hk2 _ _ _ _ I.md (by decide), hk2 _ _ _ _ I.me (by decide), I.la, I.lb, hl, I.ld, I.le',
    (by obtain ⟨j, h0, h1, h2⟩ := I.xf; exact ⟨j, h0, hk2 _ _ _ _ h1 (by decide), h2⟩),
    (by rcases I.xh with h1 | ⟨j, rs, h0, h1, h2⟩; exact .inl h1; exact .inr ⟨j, rs, h0, hk2 _ _ _ _ h1 (by decide), h2⟩),
    (by rcases I.xw with h1 | ⟨j, h0, h1, h2⟩; exact .inl h1; exact .inr ⟨j, h0, hk2 _ _ _ _ h1 (by decide), h2⟩)⟩
theorem LocB.told (I : LocB M B p xf xh xw b0 L h w) {l : List Ans} (hl : l.length = 6) : LocB M (B.set p.d (bT l)) p xf xh xw b0 { L with told := l } h w := by
  have hm := I.md
  have hk2 : ∀ k T rs kp, B k = some (.cells T rs kp) → T ≠ 73 → (B.set p.d (bT l)) k = some (.cells T rs kp) := fun k T rs kp h1 h2 => set_keep h1 (by rw [hm]; intro e; simp only [bT, Option.some.injEq, Blk.cells.injEq] at e; exact h2 e.1.symm)
  exact ⟨fun k bk h1 => by rw [Mem.set_ne _ _ _ _ (fun e => by rw [← e, I.nd] at h1; cases h1)]; exact I.le _ _ h1, I.na, I.nb, I.nc, I.nd, I.ne, I.ab, hk2 _ _ _ _ I.ma (by decide), hk2 _ _ _ _ I.mb (by decide), hk2 _ _ _ _ I.mc (by decide), Mem.set_eq _ _ _, hk2 _ _ _ _ I.me (by decide), I.la, I.lb, I.lc, hl, I.le',
    (by obtain ⟨j, h0, h1, h2⟩ := I.xf; exact ⟨j, h0, hk2 _ _ _ _ h1 (by decide), h2⟩),
    (by rcases I.xh with h1 | ⟨j, rs, h0, h1, h2⟩; exact .inl h1; exact .inr ⟨j, rs, h0, hk2 _ _ _ _ h1 (by decide), h2⟩),
    (by rcases I.xw with h1 | ⟨j, h0, h1, h2⟩; exact .inl h1; exact .inr ⟨j, h0, hk2 _ _ _ _ h1 (by decide), h2⟩)⟩
theorem LocB.num (I : LocB M B p xf xh xw b0 L h w) {l : List Int} (hl : l.length = 6) : LocB M (B.set p.e (bN l)) p xf xh xw b0 { L with num := l } h w := by
  have hm := I.me
  have hk2 : ∀ k T rs kp, B k = some (.cells T rs kp) → T ≠ 74 → (B.set p.e (bN l)) k = some (.cells T rs kp) := fun k T rs kp h1 h2 => set_keep h1 (by rw [hm]; intro e; simp only [bN, Option.some.injEq, Blk.cells.injEq] at e; exact h2 e.1.symm)
  exact ⟨fun k bk h1 => by rw [Mem.set_ne _ _ _ _ (fun e => by rw [← e, I.ne] at h1; cases h1)]; exact I.le _ _ h1, I.na, I.nb, I.nc, I.nd, I.ne, I.ab, hk2 _ _ _ _ I.ma (by decide), hk2 _ _ _ _ I.mb (by decide), hk2 _ _ _ _ I.mc (by decide), hk2 _ _ _ _ I.md (by decide), Mem.set_eq _ _ _, I.la, I.lb, I.lc, I.ld, hl,
    (by obtain ⟨j, h0, h1, h2⟩ := I.xf; exact ⟨j, h0, hk2 _ _ _ _ h1 (by decide), h2⟩),
    (by rcases I.xh with h1 | ⟨j, rs, h0, h1, h2⟩; exact .inl h1; exact .inr ⟨j, rs, h0, hk2 _ _ _ _ h1 (by decide), h2⟩),
    (by rcases I.xw with h1 | ⟨j, h0, h1, h2⟩; exact .inl h1; exact .inr ⟨j, h0, hk2 _ _ _ _ h1 (by decide), h2⟩)⟩
/-- The history's block goes, another one comes. -/
theorem LocB.hist (I : LocB M B p xf xh xw b0 L h w) {i n : Nat} {rs : List (List Lf)} {k0 : Nat} (hi : B i = some (.cells 65 rs k0)) (hmi : M i = none) (hn : B n = none) {h' : List Evt} {rs' : List (List Lf)} (hr' : rs'.map (fun r => r.map wkL) = h'.map Evt.row) : LocB M ((B.del i).set n (.cells 65 rs' 0)) p xf (.ms n 0 h'.length) xw b0 L h' w := by
  have hmn : M n = none := by
    cases hm : M n with
    | none => rfl
    | some bk => have := I.le _ _ hm; rw [hn] at this; cases this
  have hk2 : ∀ k T rs kp, B k = some (.cells T rs kp) → T ≠ 65 → ((B.del i).set n (.cells 65 rs' 0)) k = some (.cells T rs kp) := fun k T rs kp h1 h2 =>
    set_keep (del_keep h1 (by rw [hi]; intro e; simp only [Option.some.injEq, Blk.cells.injEq] at e; exact h2 e.1.symm)) (by rw [Mem.del_app]; split; simp; rw [hn]; simp)
  exact ⟨fun k bk h1 => by rw [Mem.set_ne _ _ _ _ (fun e => by rw [← e, hmn] at h1; cases h1), Mem.del_ne _ _ _ (fun e => by rw [← e, hmi] at h1; cases h1)]; exact I.le _ _ h1, I.na, I.nb, I.nc, I.nd, I.ne, I.ab, hk2 _ _ _ _ I.ma (by decide), hk2 _ _ _ _ I.mb (by decide), hk2 _ _ _ _ I.mc (by decide), hk2 _ _ _ _ I.md (by decide), hk2 _ _ _ _ I.me (by decide), I.la, I.lb, I.lc, I.ld, I.le',
    (by obtain ⟨j, h0, h1, h2⟩ := I.xf; exact ⟨j, h0, hk2 _ _ _ _ h1 (by decide), h2⟩),
    .inr ⟨n, rs', hmn, Mem.set_eq _ _ _, hr', rfl⟩,
    (by rcases I.xw with h1 | ⟨j, h0, h1, h2⟩; exact .inl h1; exact .inr ⟨j, h0, hk2 _ _ _ _ h1 (by decide), h2⟩)⟩
theorem LocB.hist0 (I : LocB M B p xf xh xw b0 L h w) {n : Nat} (hn : B n = none) {h' : List Evt} {rs' : List (List Lf)} (hr' : rs'.map (fun r => r.map wkL) = h'.map Evt.row) : LocB M (B.set n (.cells 65 rs' 0)) p xf (.ms n 0 h'.length) xw b0 L h' w := by
  have hmn : M n = none := by
    cases hm : M n with
    | none => rfl
    | some bk => have := I.le _ _ hm; rw [hn] at this; cases this
  have I' := I.grow hn (.cells 65 rs' 0)
  exact { I' with xh := .inr ⟨n, rs', hmn, Mem.set_eq _ _ _, hr', rfl⟩ }
theorem LocB.want (I : LocB M B p xf xh xw b0 L h w) {i n : Nat} {rs : List (List Lf)} {k0 : Nat} (hi : B i = some (.cells 3 rs k0)) (hmi : M i = none) (hn : B n = none) {w' : List Int} : LocB M ((B.del i).set n (.cells 3 (w'.map irow) 0)) p xf xh (.ms n 0 w'.length) b0 L h w' := by
  have hmn : M n = none := by
    cases hm : M n with
    | none => rfl
    | some bk => have := I.le _ _ hm; rw [hn] at this; cases this
  have hk2 : ∀ k T rs kp, B k = some (.cells T rs kp) → T ≠ 3 → ((B.del i).set n (.cells 3 (w'.map irow) 0)) k = some (.cells T rs kp) := fun k T rs kp h1 h2 =>
    set_keep (del_keep h1 (by rw [hi]; intro e; simp only [Option.some.injEq, Blk.cells.injEq] at e; exact h2 e.1.symm)) (by rw [Mem.del_app]; split; simp; rw [hn]; simp)
  exact ⟨fun k bk h1 => by rw [Mem.set_ne _ _ _ _ (fun e => by rw [← e, hmn] at h1; cases h1), Mem.del_ne _ _ _ (fun e => by rw [← e, hmi] at h1; cases h1)]; exact I.le _ _ h1, I.na, I.nb, I.nc, I.nd, I.ne, I.ab, hk2 _ _ _ _ I.ma (by decide), hk2 _ _ _ _ I.mb (by decide), hk2 _ _ _ _ I.mc (by decide), hk2 _ _ _ _ I.md (by decide), hk2 _ _ _ _ I.me (by decide), I.la, I.lb, I.lc, I.ld, I.le',
    (by obtain ⟨j, h0, h1, h2⟩ := I.xf; exact ⟨j, h0, hk2 _ _ _ _ h1 (by decide), h2⟩),
    (by rcases I.xh with h1 | ⟨j, rs, h0, h1, h2⟩; exact .inl h1; exact .inr ⟨j, rs, h0, hk2 _ _ _ _ h1 (by decide), h2⟩),
    .inr ⟨n, hmn, Mem.set_eq _ _ _, rfl⟩⟩
theorem LocB.want0 (I : LocB M B p xf xh xw b0 L h w) {n : Nat} (hn : B n = none) {w' : List Int} : LocB M (B.set n (.cells 3 (w'.map irow) 0)) p xf xh (.ms n 0 w'.length) b0 L h w' := by
  have hmn : M n = none := by
    cases hm : M n with
    | none => rfl
    | some bk => have := I.le _ _ hm; rw [hn] at this; cases this
  have I' := I.grow hn (.cells 3 (w'.map irow) 0)
  exact { I' with xw := .inr ⟨n, hmn, Mem.set_eq _ _ _, rfl⟩ }
end
theorem LocB.init {M F : Mem} {pb idm pa p1 p2 p3 p4 : Nat} {b0 : List Pr} (hb : ∀ j, pb ≤ j → M j = none) (h1 : pb < idm) (h2 : idm < pa) (h3 : pa < p1) (h4 : p1 < p2) (h5 : p2 < p3) (h6 : p3 < p4) (X Y Z V : Blk)
    (hF : F = (((((((((M.set pb X).del pb).set idm Y).set pa (bB (List.replicate 6 false))).set p1 (bB (List.replicate 6 false))).set p2 (bO (List.replicate 6 ⟨0, 0, 0, 0⟩))).set p3 Z).set p4 (bN (List.replicate 6 0))).set idm (.cells 26 (b0.map Pr.row) b0.length)).set p3 (bT (List.replicate 6 ans0))) :
    LocB M F ⟨pa, p1, p2, p3, p4⟩ (.ms idm 0 b0.length) .nils .nils b0 ⟨List.replicate 6 false, List.replicate 6 false, List.replicate 6 ⟨0, 0, 0, 0⟩, List.replicate 6 ans0, List.replicate 6 0⟩ [] [] := by
  subst hF
  refine ⟨fun k bk hk => ?_, hb pa (by omega), hb p1 (by omega), hb p2 (by omega), hb p3 (by omega), hb p4 (by omega), (show pa ≠ p1 by omega), ?_, ?_, ?_, ?_, ?_, rfl, rfl, rfl, rfl, rfl, ⟨idm, hb idm (by omega), ?_, rfl⟩, .inl ⟨rfl, rfl⟩, .inl ⟨rfl, rfl⟩⟩
  · have := lt_of_bnd hb hk
    simp (disch := omega) only [Mem.set_ne, Mem.del_ne]
    exact hk
  all_goals simp (disch := omega) only [Mem.set_ne, Mem.del_ne, Mem.set_eq]
/-- What the law keeps is what the witness has. -/
structure LRel (L : Loc) (W : Wit) : Prop where
  on : ∀ t, t < 6 → L.on.getD t default = (W.ws.getD t default).busy
  dn : ∀ t, t < 6 → (W.ws.getD t default).busy = true → L.done.getD t default = (W.ws.getD t default).took
  op : ∀ t, t < 6 → (W.ws.getD t default).busy = true → L.op.getD t default = (W.ws.getD t default).op
  nm : ∀ t, t < 6 → (W.ws.getD t default).busy = true → L.num.getD t default = (W.ws.getD t default).call
  tl : ∀ t, t < 6 → (W.ws.getD t default).busy = true → (W.ws.getD t default).took = true → L.told.getD t default = (W.ws.getD t default).ans
  bd : ∀ t, t < 6 → (L.told.getD t default).pairs.length ≤ 1000
  bw : ∀ t, t < 6 → (W.ws.getD t default).ans.pairs.length ≤ 1000
theorem LRel.init (s : List Pr) : LRel ⟨List.replicate 6 false, List.replicate 6 false, List.replicate 6 ⟨0, 0, 0, 0⟩, List.replicate 6 ans0, List.replicate 6 0⟩ ⟨s, List.replicate 6 wk0, 0, []⟩ := by
  have h : ∀ t, t < 6 → (List.replicate 6 wk0).getD t default = wk0 := fun t ht => by
    match t, ht with
    | 0, _ => rfl
    | 1, _ => rfl
    | 2, _ => rfl
    | 3, _ => rfl
    | 4, _ => rfl
    | 5, _ => rfl
  have h' : ∀ t, t < 6 → (List.replicate 6 ans0).getD t default = ans0 := fun t ht => by
    match t, ht with
    | 0, _ => rfl
    | 1, _ => rfl
    | 2, _ => rfl
    | 3, _ => rfl
    | 4, _ => rfl
    | 5, _ => rfl
  have h2 : ∀ t, t < 6 → (List.replicate 6 false).getD t default = false := fun t ht => by
    match t, ht with
    | 0, _ => rfl
    | 1, _ => rfl
    | 2, _ => rfl
    | 3, _ => rfl
    | 4, _ => rfl
    | 5, _ => rfl
  refine ⟨fun t ht => ?_, fun t ht hb => ?_, fun t ht hb => ?_, fun t ht hb => ?_, fun t ht hb => ?_, fun t ht => ?_, fun t ht => ?_⟩
  · simp only; rw [h t ht, h2 t ht]; rfl
  · simp only at hb; rw [h t ht] at hb; cases hb
  · simp only at hb; rw [h t ht] at hb; cases hb
  · simp only at hb; rw [h t ht] at hb; cases hb
  · simp only at hb; rw [h t ht] at hb; cases hb
  · simp only; rw [h' t ht]; decide
  · simp only; rw [h t ht]; decide
theorem LRel.call {L : Loc} {W : Wit} (R : LRel L W) (h6 : W.ws.length = 6) (l1 : L.on.length = 6) (l2 : L.done.length = 6) (l3 : L.op.length = 6) (l5 : L.num.length = 6) {t : Nat} (ht : t < 6) (op : Opn) :
    LRel { L with on := L.on.set t true, done := L.done.set t false, op := L.op.set t op, num := L.num.set t W.calls } (callW W t op) := by
  have hg := fun u => ws_get (u := u) h6 ht ⟨true, op, W.calls, false, ans0⟩
  have g1 := fun u => getD_set L.on default t u true (by omega)
  have g2 := fun u => getD_set L.done default t u false (by omega)
  have g3 := fun u => getD_set L.op default t u op (by omega)
  have g5 := fun u => getD_set L.num default t u (W.calls : Int) (by omega)
  refine ⟨fun u hu => ?_, fun u hu hb => ?_, fun u hu hb => ?_, fun u hu hb => ?_, fun u hu hb hk => ?_, R.bd, fun u hu => ?_⟩
  all_goals simp only [callW, hg, g1, g2, g3, g5] at *
  all_goals by_cases e : u = t
  all_goals simp only [e, if_true, if_false] at *
  · exact R.on u hu
  · exact R.dn u hu hb
  · exact R.op u hu hb
  · exact R.nm u hu hb
  · cases hk
  · exact R.tl u hu hb hk
  · decide
  · exact R.bw u hu
theorem LRel.took {L : Loc} {W : Wit} (R : LRel L W) (h6 : W.ws.length = 6) (l2 : L.done.length = 6) (l4 : L.told.length = 6) {t : Nat} (ht : t < 6) (hb : (W.ws.getD t default).busy = true) (hs : W.s.length ≤ 1000) :
    LRel { L with done := L.done.set t true, told := L.told.set t (doA W.s (W.ws.getD t default).op) } (tookW W t) := by
  have hg := fun u => ws_get (u := u) h6 ht { W.ws.getD t default with took := true, ans := doA W.s (W.ws.getD t default).op }
  have g2 := fun u => getD_set L.done default t u true (by omega)
  have g4 := fun u => getD_set L.told default t u (doA W.s (W.ws.getD t default).op) (by omega)
  have hda := doA_lenO W.s (W.ws.getD t default).op
  refine ⟨fun u hu => ?_, fun u hu hb2 => ?_, fun u hu hb2 => ?_, fun u hu hb2 => ?_, fun u hu hb2 hk => ?_, fun u hu => ?_, fun u hu => ?_⟩
  all_goals simp only [tookW, hg, g2, g4] at *
  all_goals by_cases e : u = t
  all_goals simp only [e, if_true, if_false] at *
  · exact R.on t ht
  · exact R.on u hu
  · exact R.dn u hu hb2
  · exact R.op t ht hb
  · exact R.op u hu hb2
  · exact R.nm t ht hb
  · exact R.nm u hu hb2
  · exact R.tl u hu hb2 hk
  · omega
  · exact R.bd u hu
  · omega
  · exact R.bw u hu
theorem LRel.ret {L : Loc} {W : Wit} (R : LRel L W) (h6 : W.ws.length = 6) (l1 : L.on.length = 6) {t : Nat} (ht : t < 6) (hb : (W.ws.getD t default).busy = true) : LRel { L with on := L.on.set t false } (retW W t) := by
  have hg := fun u => ws_get (u := u) h6 ht wk0
  have g1 := fun u => getD_set L.on default t u false (by omega)
  have hr : retW W t = { W with ws := W.ws.set t wk0 } := by rw [retW, if_pos hb]
  rw [hr]
  have w0b : wk0.busy = false := rfl
  refine ⟨fun u hu => ?_, fun u hu hb2 => ?_, fun u hu hb2 => ?_, fun u hu hb2 => ?_, fun u hu hb2 hk => ?_, R.bd, fun u hu => ?_⟩
  all_goals simp only [hg, g1] at *
  all_goals by_cases e : u = t
  all_goals simp only [e, if_true, if_false, w0b, Bool.false_eq_true] at *
  · exact R.on u hu
  · exact R.dn u hu hb2
  · exact R.op u hu hb2
  · exact R.nm u hu hb2
  · exact R.tl u hu hb2 hk
  · decide
  · exact R.bw u hu
end Go.X
set_option linter.unusedVariables false
set_option linter.unusedSimpArgs false
set_option maxHeartbeats 20000000
set_option maxRecDepth 100000
namespace Go.X
open Go.Proofs.Try (prog)

def bT0 : Blk := .cells 73 [(List.replicate 6 [.int .i64 0, .bool false, .int .i64 0, .int .i64 0, .int .i64 0, .nils]).flatten] 0
theorem gs_first {N : Mem} {idm p3 : Nat} {b0 : List Pr} (h1 : N idm = some (.cells 26 (b0.map Pr.row) 0)) (h3 : N p3 = some bT0) (hne : idm ≠ p3) :
    GStep N ((N.set idm (.cells 26 (b0.map Pr.row) b0.length)).set p3 (bT (List.replicate 6 ans0))) := by
  have g1 := GStep.frz h1
  have g2 := GStep.wk (M := N.set idm (.cells 26 (b0.map Pr.row) (max 0 (b0.map Pr.row).length))) (out := p3) (by rw [Mem.set_ne _ _ _ _ hne]; exact h3)
  have g := g1.trans g2
  rw [List.length_map, Nat.max_eq_right (Nat.zero_le _)] at g
  exact g
structure PlaysI (M N : Mem) (id mid : Nat) (o : Lf) (b0 : List Pr) (p : Ids) (xf xh xw : Lf) (B : Mem) (i : Nat) (x : Lf) (W : Wit) (L : Loc) (h : List Evt) (good : Bool) : Prop where
  x : IsL x W.s
  loc : LocB M B p xf xh xw b0 L h W.ord
  win : WIn B N id mid o W
  rel : LRel L W
  ls : W.s.length ≤ 50 + i
  lc : W.calls ≤ i
  lo : W.ord.length ≤ i
  lh : h.length ≤ i
  lp : ∀ e ∈ h, e.ans.pairs.length ≤ 1000
  asc : Asc W.s
  inv : good = true → ∃ T, PInv b0 W h T
theorem PlaysI.up {M N : Mem} {id mid : Nat} {o : Lf} {b0 : List Pr} {p : Ids} {xf xh xw : Lf} {B : Mem} {i : Nat} {x : Lf} {W : Wit} {L : Loc} {h : List Evt} {good : Bool} (I : PlaysI M N id mid o b0 p xf xh xw B i x W L h good) : PlaysI M N id mid o b0 p xf xh xw B (i + 1) x W L h good :=
  { I with ls := by have := I.ls; omega, lc := by have := I.lc; omega, lo := by have := I.lo; omega, lh := by have := I.lh; omega }
theorem arr_bool {l : List Bool} {t : Nat} (ht : t < l.length) : (arr brow l).drop t = .bool (l.getD t default) :: (arr brow l).drop (t + 1) := by
  have := arr_drop (row := brow) (n := 1) (fun _ => rfl) default l t ht
  rwa [Nat.mul_one] at this
theorem arr_int {l : List Int} {t : Nat} (ht : t < l.length) : (arr irow l).drop t = .int .i64 (l.getD t default) :: (arr irow l).drop (t + 1) := by
  have := arr_drop (row := irow) (n := 1) (fun _ => rfl) default l t ht
  rwa [Nat.mul_one] at this
theorem arr_opn {l : List Opn} {t : Nat} (ht : t < l.length) : (arr Opn.row l).drop (t * 4) = [.int .i64 (l.getD t default).kind, .int .i64 (l.getD t default).key, .int .i64 (l.getD t default).to, .int .i64 (l.getD t default).val] ++ (arr Opn.row l).drop (t * 4 + 4) := arr_drop (row := Opn.row) (n := 4) (fun _ => rfl) default l t ht
theorem arr_ans {l : List Ans} {t : Nat} (ht : t < l.length) : (arr Ans.row l).drop (t * 6) = [.int .i64 (l.getD t default).err, .bool (l.getD t default).ok, .int .i64 (l.getD t default).pair.key, .int .i64 (l.getD t default).pair.val, .int .i64 (l.getD t default).n, .sl ((l.getD t default).pairs.map Pr.row)] ++ (arr Ans.row l).drop (t * 6 + 6) := arr_drop (row := Ans.row) (n := 6) (fun _ => rfl) default l t ht
theorem ne_ty {B : Mem} {i j T T' k k' : Nat} {rs rs' : List (List Lf)} (h : B i = some (.cells T rs k)) (h' : B j = some (.cells T' rs' k')) (hT : T ≠ T') : i ≠ j := fun e => by
  rw [e, h'] at h
  simp only [Option.some.injEq, Blk.cells.injEq] at h
  exact hT h.1.symm
theorem srcRows_ms {M : Mem} {t e : TypeId} {te : TI} {id : Nat} {r : List Lf} (hM : M id = some (.cells e [r] 0)) (hr : r.length = te.size) : srcRows Go.Proofs.Try.prog M t t e te (.l (.ms id 0 1)) = some [r] := by
  unfold srcRows
  rw [if_pos rfl]
  simp only [hM]
  rw [if_pos ⟨trivial, by simp⟩]
  rfl
theorem app_evt {M B N : Mem} {id mid : Nat} {o : Lf} {W : Wit} {p : Ids} {xf xh xw : Lf} {b0 : List Pr} {L : Loc} {h : List Evt} {w : List Int} (hW : WIn B N id mid o W) (I : LocB M B p xf xh xw b0 L h w) {idn : Nat} (hn : ∀ j, idn ≤ j → N j = none) (e : Evt) (r : List Lf) (hr : r.map wkL = e.row) (hl : h.length ≤ 1000) {K : AV → Mem → Prop}
    (hk : ∀ idA B' N', WIn B' N' id mid o W → LocB M B' p xf (.ms idA 0 (h ++ [e]).length) xw b0 L (h ++ [e]) w → K (.l (.ms idA 0 (h ++ [e]).length)) N') :
    @appI Go.Proofs.Try.prog (N.set idn (.cells 65 [r] 0)) 53 53 (.l xh) (.l (.ms idn 0 1)) ⟨K⟩ := by
  obtain ⟨hW1, hB1⟩ := hW.grow hn (.cells 65 [r] 0)
  have I1 := I.grow (hB1 _ (Nat.le_refl _)) (.cells 65 [r] 0)
  have hel : (h ++ [e]).length = h.length + 1 := by simp
  have hr12 : r.length = 12 := by
    have := congrArg List.length hr
    rw [List.length_map] at this
    exact this
  rcases I1.xh with ⟨rfl, rfl⟩ | ⟨i, rs, hMi, hBi, hrs, rfl⟩
  · refine app_nils _ _ _ _ 65 _ _ ti_53 rfl ti_65 (by kernel_rfl) (by decide) _ [r] (srcRows_ms (Mem.set_eq _ _ _) hr12) (by simp) (by simp) (by simp) (fun _ idA hidA => ?_)
    obtain ⟨hW2, hB2⟩ := hW1.grow hidA (.cells 65 [r] 0)
    exact hk idA _ _ hW2 (I1.hist0 (h' := [e]) (hB2 _ (Nat.le_refl _)) (by simp [hr]))
  · have hNi := hW1.le _ _ hBi
    have hrl : rs.length = h.length := by
      have := congrArg List.length hrs
      simpa using this
    refine app_ms _ _ _ _ 65 _ _ ti_53 rfl ti_65 (by kernel_rfl) (by decide) i h.length _ (rows := rs) (keep := 0) [r] hNi (srcRows_ms (Mem.set_eq _ _ _) hr12) (by omega) (Nat.zero_le _) ?_ ?_ (fun idA hidA => ?_)
    · exact Nat.le_trans (Nat.mul_le_mul_right _ (show h.length + 1 ≤ 1001 by omega)) (by decide)
    · show h.length + 1 ≤ 140737488355328
      omega
    have hW2 := hW1.app hBi hidA (.cells 65 (rs ++ [r]) 0)
    have hnA : (B.set idn (.cells 65 [r] 0)) idA = none := by
      cases hm : (B.set idn (.cells 65 [r] 0)) idA with
      | none => rfl
      | some bk => have := hidA idA (Nat.le_refl _); rw [hW1.le _ _ hm] at this; cases this
    have hk' := hk idA _ _ hW2 (I1.hist hBi hMi hnA (h' := h ++ [e]) (rs' := rs ++ [r]) (by rw [List.map_append, List.map_append, hrs, List.map_singleton, List.map_singleton, hr]))
    rw [List.take_of_length_le (by omega)]
    rw [hel] at hk'
    exact hk'
theorem app_want {M B N : Mem} {id mid : Nat} {o : Lf} {W : Wit} {p : Ids} {xf xh xw : Lf} {b0 : List Pr} {L : Loc} {h : List Evt} {w : List Int} (hW : WIn B N id mid o W) (I : LocB M B p xf xh xw b0 L h w) {idn : Nat} (hn : ∀ j, idn ≤ j → N j = none) (e : Int) (hl : w.length ≤ 1000) {K : AV → Mem → Prop}
    (hk : ∀ idA B' N', WIn B' N' id mid o W → LocB M B' p xf xh (.ms idA 0 (w ++ [e]).length) b0 L h (w ++ [e]) → K (.l (.ms idA 0 (w ++ [e]).length)) N') :
    @appI Go.Proofs.Try.prog (N.set idn (.cells 3 [irow e] 0)) 39 39 (.l xw) (.l (.ms idn 0 1)) ⟨K⟩ := by
  obtain ⟨hW1, hB1⟩ := hW.grow hn (.cells 3 [irow e] 0)
  have I1 := I.grow (hB1 _ (Nat.le_refl _)) (.cells 3 [irow e] 0)
  have hel : (w ++ [e]).length = w.length + 1 := by simp
  rcases I1.xw with ⟨rfl, rfl⟩ | ⟨i, hMi, hBi, rfl⟩
  · refine app_nils _ _ _ _ 3 _ _ ti_39 rfl ti_3 (by kernel_rfl) (by decide) _ [irow e] (srcRows_ms (Mem.set_eq _ _ _) rfl) (by simp) (by simp) (by simp) (fun _ idA hidA => ?_)
    obtain ⟨hW2, hB2⟩ := hW1.grow hidA (.cells 3 [irow e] 0)
    exact hk idA _ _ hW2 (I1.want0 (w' := [e]) (hB2 _ (Nat.le_refl _)))
  · have hNi := hW1.le _ _ hBi
    refine app_ms _ _ _ _ 3 _ _ ti_39 rfl ti_3 (by kernel_rfl) (by decide) i w.length _ (rows := w.map irow) (keep := 0) [irow e] hNi (srcRows_ms (Mem.set_eq _ _ _) rfl) (by simp) (Nat.zero_le _) ?_ ?_ (fun idA hidA => ?_)
    · exact Nat.le_trans (Nat.mul_le_mul_right _ (show w.length + 1 ≤ 1001 by omega)) (by decide)
    · show w.length + 1 ≤ 140737488355328
      omega
    have hW2 := hW1.app hBi hidA (.cells 3 ((w ++ [e]).map irow) 0)
    have hnA : (B.set idn (.cells 3 [irow e] 0)) idA = none := by
      cases hm : (B.set idn (.cells 3 [irow e] 0)) idA with
      | none => rfl
      | some bk => have := hidA idA (Nat.le_refl _); rw [hW1.le _ _ hm] at this; cases this
    have hk' := hk idA _ _ hW2 (I1.want hBi hMi hnA (w' := w ++ [e]))
    rw [List.take_of_length_le (by simp)]
    rw [hel, List.map_append] at hk'
    exact hk'
theorem PlaysI.call {M N N' : Mem} {id mid : Nat} {o : Lf} {b0 : List Pr} {p : Ids} {xf xh xw xh' : Lf} {B B' : Mem} {i : Nat} {x : Lf} {W : Wit} {L : Loc} {h : List Evt} {good : Bool} (I : PlaysI M N id mid o b0 p xf xh xw B i x W L h good) {n : Nat} (hn : n < 6) {op : Opn} (ec : canCall W n op = true)
    (hW : WIn B' N' id mid o (callW W n op)) (hJ : LocB M B' p xf xh' xw b0 { L with on := L.on.set n true, done := L.done.set n false, op := L.op.set n op, num := L.num.set n (W.calls : Int) } (h ++ [⟨n, false, op, ans0⟩]) W.ord) :
    PlaysI M N' id mid o b0 p xf xh' xw B' (i + 1) x (callW W n op) { L with on := L.on.set n true, done := L.done.set n false, op := L.op.set n op, num := L.num.set n (W.calls : Int) } (h ++ [⟨n, false, op, ans0⟩]) good := by
  have h1 := I.ls
  have h2 := I.lc
  have h3 := I.lo
  have h4 := I.lh
  refine ⟨I.x, hJ, hW, I.rel.call I.win.six I.loc.la I.loc.lb I.loc.lc I.loc.le' hn op, ?_, ?_, ?_, ?_, fun e he => ?_, I.asc, fun hg => ?_⟩
  · show W.s.length ≤ _
    omega
  · show W.calls + 1 ≤ _
    omega
  · show W.ord.length ≤ _
    omega
  · rw [List.length_append]
    simp only [List.length_cons, List.length_nil]
    omega
  · rcases List.mem_append.1 he with he | he
    · exact I.lp e he
    · rw [List.mem_singleton.1 he]
      exact Nat.zero_le _
  · obtain ⟨T, hT⟩ := I.inv hg
    exact ⟨T, hT.call hn ec⟩
theorem PlaysI.took {M N N' : Mem} {id mid : Nat} {o o' : Lf} {b0 : List Pr} {p : Ids} {xf xh xw xw' : Lf} {B B' : Mem} {i : Nat} {x x' : Lf} {W : Wit} {L : Loc} {h : List Evt} {good : Bool} (I : PlaysI M N id mid o b0 p xf xh xw B i x W L h good) {n : Nat} (hn : n < 6) (hi : i ≤ 200) (ec : canTook W n = true)
    (hx : IsL x' (doL W.s (W.ws.getD n default).op)) (hW : WIn B' N' id mid o' (tookW W n)) (hJ : LocB M B' p xf xh xw' b0 { L with done := L.done.set n true, told := L.told.set n (doA W.s (W.ws.getD n default).op) } h (W.ord ++ [(W.ws.getD n default).call])) :
    PlaysI M N' id mid o' b0 p xf xh xw' B' (i + 1) x' (tookW W n) { L with done := L.done.set n true, told := L.told.set n (doA W.s (W.ws.getD n default).op) } h good := by
  have h1 := I.ls
  have h2 := I.lc
  have h3 := I.lo
  have h4 := I.lh
  have hbz : (W.ws.getD n default).busy = true := by rw [canTook, Bool.and_eq_true] at ec; exact ec.1
  refine ⟨hx, hJ, hW, I.rel.took I.win.six I.loc.lb I.loc.ld hn hbz (by omega), ?_, ?_, ?_, by omega, I.lp, doL_asc _ I.asc, fun hg => ?_⟩
  · have := doL_len W.s (W.ws.getD n default).op
    show (doL W.s (W.ws.getD n default).op).length ≤ _
    omega
  · show W.calls ≤ _
    omega
  · show (W.ord ++ [_]).length ≤ _
    rw [List.length_append]
    simp only [List.length_cons, List.length_nil]
    omega
  · obtain ⟨T, hT⟩ := I.inv hg
    exact hT.took hn ec
theorem PlaysI.mem {M N N' : Mem} {id mid : Nat} {o : Lf} {b0 : List Pr} {p : Ids} {xf xh xw : Lf} {B B' : Mem} {i : Nat} {x : Lf} {W : Wit} {L : Loc} {h : List Evt} {good : Bool} (I : PlaysI M N id mid o b0 p xf xh xw B i x W L h good) (hJ : LocB M B' p xf xh xw b0 L h W.ord) (hW : WIn B' N' id mid o W) : PlaysI M N' id mid o b0 p xf xh xw B' i x W L h good := { I with loc := hJ, win := hW }
def ansR (a : Ans) (lp : Lf) : List Lf := [.int .i64 a.err, .bool a.ok, .int .i64 a.pair.key, .int .i64 a.pair.val, .int .i64 a.n, lp]
theorem LocB.ansBlk {M B : Mem} {p : Ids} {xf xh xw : Lf} {b0 : List Pr} {L : Loc} {h : List Evt} {w : List Int} (I : LocB M B p xf xh xw b0 L h w) {i : Nat} {rs : List (List Lf)} {k0 : Nat} (hi : B i = some (.cells 29 rs k0)) (hm : M i = none) (rs' : List (List Lf)) : LocB M (B.set i (.cells 29 rs' 0)) p xf xh xw b0 L h w := by
  have hk2 : ∀ k T rs kp, B k = some (.cells T rs kp) → T ≠ 29 → (B.set i (.cells 29 rs' 0)) k = some (.cells T rs kp) := fun k T rs kp h1 h2 => set_keep h1 (by rw [hi]; intro e; simp only [Option.some.injEq, Blk.cells.injEq] at e; exact h2 e.1.symm)
  exact ⟨fun k bk h1 => by rw [Mem.set_ne _ _ _ _ (fun e => by rw [← e, hm] at h1; cases h1)]; exact I.le _ _ h1, I.na, I.nb, I.nc, I.nd, I.ne, I.ab, hk2 _ _ _ _ I.ma (by decide), hk2 _ _ _ _ I.mb (by decide), hk2 _ _ _ _ I.mc (by decide), hk2 _ _ _ _ I.md (by decide), hk2 _ _ _ _ I.me (by decide), I.la, I.lb, I.lc, I.ld, I.le',
    (by obtain ⟨j, h0, h1, h2⟩ := I.xf; exact ⟨j, h0, hk2 _ _ _ _ h1 (by decide), h2⟩),
    (by rcases I.xh with h1 | ⟨j, rs, h0, h1, h2⟩; exact .inl h1; exact .inr ⟨j, rs, h0, hk2 _ _ _ _ h1 (by decide), h2⟩),
    (by rcases I.xw with h1 | ⟨j, h0, h1, h2⟩; exact .inl h1; exact .inr ⟨j, h0, hk2 _ _ _ _ h1 (by decide), h2⟩)⟩
theorem wkL_int (k : IntKind) (n : Int) : wkL (.int k n) = .int k n := rfl
theorem wkL_bool (b : Bool) : wkL (.bool b) = .bool b := rfl
theorem wkL_sl (r : List (List Lf)) : wkL (.sl r) = .sl r := rfl
theorem wkL_ptr (i r c : Nat) : wkL (.ptr i r c) = .ptr i r c := rfl
theorem sameAnsR_wk (a b : Ans) (lp : Lf) (hlp : wkL lp = .sl (a.pairs.map Pr.row)) (hl : a.pairs.length ≤ 1000000) (M : Mem) : XCalls Go.Proofs.Try.prog 38 [.agg [.int .i64 a.err, .bool a.ok, .int .i64 a.pair.key, .int .i64 a.pair.val, .int .i64 a.n, lp], .agg b.row] M fun r M' => r = .l (.bool (bof (a = b))) ∧ M' = M := by
  refine XCalls.wk ?_
  have := sameAnsR_spec a b (by omega) M
  simp only [List.map_cons, List.map_nil, wkA, wkL_int, wkL_bool, wkL_sl, wkL_ptr, hlp, row_ans] at this ⊢
  exact this
theorem ret_wk {B M : Mem} {id mid : Nat} {o : Lf} {W : Wit} (hW : WIn B M id mid o W) (t : Nat) (ht : t < 6) (a : Ans) (lp : Lf) (hlp : wkL lp = .sl (a.pairs.map Pr.row)) (hp : (W.ws.getD t default).ans.pairs.length ≤ 1000000) :
    XCalls Go.Proofs.Try.prog 16 [.l (.ptr id 0 0), .l (.int .i64 t), .agg [.int .i64 a.err, .bool a.ok, .int .i64 a.pair.key, .int .i64 a.pair.val, .int .i64 a.n, lp]] M fun r M' => r = .l (.bool (retB W t a)) ∧ WIn B M' id mid o (retW W t) := by
  refine XCalls.wk ?_
  have := ret_in hW t ht a hp
  simp only [List.map_cons, List.map_nil, wkA, wkL_int, wkL_bool, wkL_sl, wkL_ptr, hlp, row_ans] at this ⊢
  exact this
theorem ret_out_wk (id : Nat) (t : Int) (a : Ans) (lp : Lf) (hlp : wkL lp = .sl (a.pairs.map Pr.row)) (M : Mem) (h : t < 0 ∨ 6 ≤ t) : XCalls Go.Proofs.Try.prog 16 [.l (.ptr id 0 0), .l (.int .i64 t), .agg [.int .i64 a.err, .bool a.ok, .int .i64 a.pair.key, .int .i64 a.pair.val, .int .i64 a.n, lp]] M fun r M' => r = .l (.bool false) ∧ M' = M := by
  refine XCalls.wk ?_
  have := ret_out id t a M h
  simp only [List.map_cons, List.map_nil, wkA, wkL_int, wkL_bool, wkL_sl, wkL_ptr, hlp, row_ans] at this ⊢
  exact this
theorem PlaysI.ret {M N N' : Mem} {id mid : Nat} {o : Lf} {b0 : List Pr} {p : Ids} {xf xh xw xh' : Lf} {B B' : Mem} {i : Nat} {x : Lf} {W : Wit} {L : Loc} {h : List Evt} {good : Bool} (I : PlaysI M N id mid o b0 p xf xh xw B i x W L h good) {n : Nat} (hn : n < 6) {a : Ans} (hap : a.pairs.length ≤ 1000) (hb : (W.ws.getD n default).busy = true)
    (hW : WIn B' N' id mid o (retW W n)) (hJ : LocB M B' p xf xh' xw b0 { L with on := L.on.set n false } (h ++ [⟨n, true, (W.ws.getD n default).op, a⟩]) W.ord) :
    PlaysI M N' id mid o b0 p xf xh' xw B' (i + 1) x (retW W n) { L with on := L.on.set n false } (h ++ [⟨n, true, (W.ws.getD n default).op, a⟩]) (good && retB W n a) := by
  have h1 := I.ls
  have h2 := I.lc
  have h3 := I.lo
  have h4 := I.lh
  have hr : retW W n = { W with ws := W.ws.set n wk0 } := by rw [retW, if_pos hb]
  have eo : (retW W n).ord = W.ord := by rw [hr]
  have es : (retW W n).s = W.s := by rw [hr]
  have ecl : (retW W n).calls = W.calls := by rw [hr]
  refine ⟨by rw [es]; exact I.x, by rw [eo]; exact hJ, hW, I.rel.ret I.win.six I.loc.la hn hb, by rw [es]; omega, by rw [ecl]; omega, by rw [eo]; omega, ?_, fun e he => ?_, by rw [es]; exact I.asc, fun hg => ?_⟩
  · rw [List.length_append]
    simp only [List.length_cons, List.length_nil]
    omega
  · rcases List.mem_append.1 he with he | he
    · exact I.lp e he
    · rw [List.mem_singleton.1 he]
      exact hap
  · rw [Bool.and_eq_true] at hg
    obtain ⟨T, hT⟩ := I.inv hg.1
    exact ⟨T, hT.ret hn hg.2⟩
theorem tookPlays_walk (b : List Pr) (l : List Stp) (hb : b.length ≤ 140737488355328) (hl : l.length ≤ 140737488355328) (hp : ∀ s ∈ l, s.ans.pairs.length ≤ 140737488355328) (M : Mem) : XCalls Go.Proofs.Try.prog 11 [.l (.sl (b.map Pr.row)), .l (.sl (l.map Stp.row))] M fun r M' => r = .l (.bool true) ∧ M' = M := by
  refine xcalls_intro (rs := [.tmp 4]) Go.Proofs.Try.func11 rfl (by kernel_rfl) rfl rfl (by kernel_rfl) (by simp) ?_
  simp -implicitDefEqProofs (maxSteps := 1000000) (disch := omega) only [↓xsP, ↓vc_seq, xsQ, xsT, xsR, xsD, ↓reduceIte, reduceCtorEq, eq_self, ne_eq, imp_self, forall_const, Nat.reduceEqDiff, Nat.reduceAdd, Nat.reduceSub, Nat.reduceMul, Nat.reduceLT, Nat.reduceLeDiff, Nat.reduceBEq, Nat.reduceDiv, Nat.reduceMod, Int.reduceToNat, Int.reduceNeg, Int.reduceAdd, Int.reduceSub, Int.reduceMul, Int.reduceEq, Int.reduceNe, Int.reduceLT, Int.reduceLE, Int.reduceGT, Int.reduceGE]
  refine callI_of ((light21_spec l hl _).mono ?_)
  rintro _ M ⟨⟨n, hn, rfl⟩ | ⟨rfl, hL⟩, rfl⟩
  · have hn' : (n > 0) = True := eq_true hn
    simp -implicitDefEqProofs (maxSteps := 1000000) (disch := omega) only [↓xsP, ↓vc_seq, xsQ, xsT, xsR, xsD, ↓reduceIte, reduceCtorEq, eq_self, ne_eq, imp_self, forall_const, Nat.reduceEqDiff, Nat.reduceAdd, Nat.reduceSub, Nat.reduceMul, Nat.reduceLT, Nat.reduceLeDiff, Nat.reduceBEq, Nat.reduceDiv, Nat.reduceMod, Int.reduceToNat, Int.reduceNeg, Int.reduceAdd, Int.reduceSub, Int.reduceMul, Int.reduceEq, Int.reduceNe, Int.reduceLT, Int.reduceLE, Int.reduceGT, Int.reduceGE, hn']
    refine call_of (awake21_spec _) ?_
    simp -implicitDefEqProofs (maxSteps := 1000000) (disch := omega) only [↓xsP, ↓vc_seq, xsQ, xsT, xsR, xsD, ↓reduceIte, reduceCtorEq, eq_self, ne_eq, imp_self, forall_const, Nat.reduceEqDiff, Nat.reduceAdd, Nat.reduceSub, Nat.reduceMul, Nat.reduceLT, Nat.reduceLeDiff, Nat.reduceBEq, Nat.reduceDiv, Nat.reduceMod, Int.reduceToNat, Int.reduceNeg, Int.reduceAdd, Int.reduceSub, Int.reduceMul, Int.reduceEq, Int.reduceNe, Int.reduceLT, Int.reduceLE, Int.reduceGT, Int.reduceGE]
    exact fin_ok (Mem.le_refl _) ⟨rfl, rfl⟩
  simp -implicitDefEqProofs (maxSteps := 1000000) (disch := omega) only [↓xsP, ↓vc_seq, xsQ, xsT, xsR, xsD, ↓reduceIte, reduceCtorEq, eq_self, ne_eq, imp_self, forall_const, Nat.reduceEqDiff, Nat.reduceAdd, Nat.reduceSub, Nat.reduceMul, Nat.reduceLT, Nat.reduceLeDiff, Nat.reduceBEq, Nat.reduceDiv, Nat.reduceMod, Int.reduceToNat, Int.reduceNeg, Int.reduceAdd, Int.reduceSub, Int.reduceMul, Int.reduceEq, Int.reduceNe, Int.reduceLT, Int.reduceLE, Int.reduceGT, Int.reduceGE]
  refine condI_prop (fun h1 => ?_) (fun h1 => ?_)
  · simp -implicitDefEqProofs (maxSteps := 1000000) (disch := omega) only [↓xsP, ↓vc_seq, xsQ, xsT, xsR, xsD, ↓reduceIte, reduceCtorEq, eq_self, ne_eq, imp_self, forall_const, Nat.reduceEqDiff, Nat.reduceAdd, Nat.reduceSub, Nat.reduceMul, Nat.reduceLT, Nat.reduceLeDiff, Nat.reduceBEq, Nat.reduceDiv, Nat.reduceMod, Int.reduceToNat, Int.reduceNeg, Int.reduceAdd, Int.reduceSub, Int.reduceMul, Int.reduceEq, Int.reduceNe, Int.reduceLT, Int.reduceLE, Int.reduceGT, Int.reduceGE]
    refine call_of (awake21_spec _) ?_
    simp -implicitDefEqProofs (maxSteps := 1000000) (disch := omega) only [↓xsP, ↓vc_seq, xsQ, xsT, xsR, xsD, ↓reduceIte, reduceCtorEq, eq_self, ne_eq, imp_self, forall_const, Nat.reduceEqDiff, Nat.reduceAdd, Nat.reduceSub, Nat.reduceMul, Nat.reduceLT, Nat.reduceLeDiff, Nat.reduceBEq, Nat.reduceDiv, Nat.reduceMod, Int.reduceToNat, Int.reduceNeg, Int.reduceAdd, Int.reduceSub, Int.reduceMul, Int.reduceEq, Int.reduceNe, Int.reduceLT, Int.reduceLE, Int.reduceGT, Int.reduceGE]
    exact fin_ok (Mem.le_refl _) ⟨rfl, rfl⟩
  simp -implicitDefEqProofs (maxSteps := 1000000) (disch := omega) only [↓xsP, ↓vc_seq, xsQ, xsT, xsR, xsD, ↓reduceIte, reduceCtorEq, eq_self, ne_eq, imp_self, forall_const, Nat.reduceEqDiff, Nat.reduceAdd, Nat.reduceSub, Nat.reduceMul, Nat.reduceLT, Nat.reduceLeDiff, Nat.reduceBEq, Nat.reduceDiv, Nat.reduceMod, Int.reduceToNat, Int.reduceNeg, Int.reduceAdd, Int.reduceSub, Int.reduceMul, Int.reduceEq, Int.reduceNe, Int.reduceLT, Int.reduceLE, Int.reduceGT, Int.reduceGE]
  refine callI_of ((wnew_spec b (by omega) M).mono ?_)
  rintro _ N0 ⟨id, mid, rfl, hW⟩
  simp -implicitDefEqProofs (maxSteps := 1000000) (disch := omega) only [↓xsP, ↓vc_seq, xsQ, xsT, xsR, xsD, ↓reduceIte, reduceCtorEq, eq_self, ne_eq, imp_self, forall_const, Nat.reduceEqDiff, Nat.reduceAdd, Nat.reduceSub, Nat.reduceMul, Nat.reduceLT, Nat.reduceLeDiff, Nat.reduceBEq, Nat.reduceDiv, Nat.reduceMod, Int.reduceToNat, Int.reduceNeg, Int.reduceAdd, Int.reduceSub, Int.reduceMul, Int.reduceEq, Int.reduceNe, Int.reduceLT, Int.reduceLE, Int.reduceGT, Int.reduceGE]
  refine loopI_of (xloop (by kernel_rfl) (fun k fr M' => ∃ (i : Nat) (x : Lf), i ≤ b.length ∧ k = b.length - i ∧ fr 0 = .l (.sl (b.map Pr.row)) ∧ fr 1 = .l (.sl (l.map Stp.row)) ∧ fr 5 = .l (.ptr id 0 0) ∧ fr 6 = .l x ∧ fr 40 = .l (.sl (b.map Pr.row)) ∧ fr 41 = .l (.int .i64 b.length) ∧ fr 42 = .l (.int .i64 i) ∧ M' = N0 ∧ IsL x (putL (b.take i))) b.length ?_ ?_)
  · exact ⟨0, .nils, Nat.zero_le _, rfl, by simp -implicitDefEqProofs (maxSteps := 1000000) (disch := omega) only [↓xsP, ↓vc_seq, xsQ, xsT, xsR, xsD, ↓reduceIte, reduceCtorEq, eq_self, ne_eq, imp_self, forall_const, Nat.reduceEqDiff, Nat.reduceAdd, Nat.reduceSub, Nat.reduceMul, Nat.reduceLT, Nat.reduceLeDiff, Nat.reduceBEq, Nat.reduceDiv, Nat.reduceMod, Int.reduceToNat, Int.reduceNeg, Int.reduceAdd, Int.reduceSub, Int.reduceMul, Int.reduceEq, Int.reduceNe, Int.reduceLT, Int.reduceLE, Int.reduceGT, Int.reduceGE], by simp -implicitDefEqProofs (maxSteps := 1000000) (disch := omega) only [↓xsP, ↓vc_seq, xsQ, xsT, xsR, xsD, ↓reduceIte, reduceCtorEq, eq_self, ne_eq, imp_self, forall_const, Nat.reduceEqDiff, Nat.reduceAdd, Nat.reduceSub, Nat.reduceMul, Nat.reduceLT, Nat.reduceLeDiff, Nat.reduceBEq, Nat.reduceDiv, Nat.reduceMod, Int.reduceToNat, Int.reduceNeg, Int.reduceAdd, Int.reduceSub, Int.reduceMul, Int.reduceEq, Int.reduceNe, Int.reduceLT, Int.reduceLE, Int.reduceGT, Int.reduceGE], by simp -implicitDefEqProofs (maxSteps := 1000000) (disch := omega) only [↓xsP, ↓vc_seq, xsQ, xsT, xsR, xsD, ↓reduceIte, reduceCtorEq, eq_self, ne_eq, imp_self, forall_const, Nat.reduceEqDiff, Nat.reduceAdd, Nat.reduceSub, Nat.reduceMul, Nat.reduceLT, Nat.reduceLeDiff, Nat.reduceBEq, Nat.reduceDiv, Nat.reduceMod, Int.reduceToNat, Int.reduceNeg, Int.reduceAdd, Int.reduceSub, Int.reduceMul, Int.reduceEq, Int.reduceNe, Int.reduceLT, Int.reduceLE, Int.reduceGT, Int.reduceGE], by simp -implicitDefEqProofs (maxSteps := 1000000) (disch := omega) only [↓xsP, ↓vc_seq, xsQ, xsT, xsR, xsD, ↓reduceIte, reduceCtorEq, eq_self, ne_eq, imp_self, forall_const, Nat.reduceEqDiff, Nat.reduceAdd, Nat.reduceSub, Nat.reduceMul, Nat.reduceLT, Nat.reduceLeDiff, Nat.reduceBEq, Nat.reduceDiv, Nat.reduceMod, Int.reduceToNat, Int.reduceNeg, Int.reduceAdd, Int.reduceSub, Int.reduceMul, Int.reduceEq, Int.reduceNe, Int.reduceLT, Int.reduceLE, Int.reduceGT, Int.reduceGE], by simp -implicitDefEqProofs (maxSteps := 1000000) (disch := omega) only [↓xsP, ↓vc_seq, xsQ, xsT, xsR, xsD, ↓reduceIte, reduceCtorEq, eq_self, ne_eq, imp_self, forall_const, Nat.reduceEqDiff, Nat.reduceAdd, Nat.reduceSub, Nat.reduceMul, Nat.reduceLT, Nat.reduceLeDiff, Nat.reduceBEq, Nat.reduceDiv, Nat.reduceMod, Int.reduceToNat, Int.reduceNeg, Int.reduceAdd, Int.reduceSub, Int.reduceMul, Int.reduceEq, Int.reduceNe, Int.reduceLT, Int.reduceLE, Int.reduceGT, Int.reduceGE], by simp -implicitDefEqProofs (maxSteps := 1000000) (disch := omega) only [↓xsP, ↓vc_seq, xsQ, xsT, xsR, xsD, ↓reduceIte, reduceCtorEq, eq_self, ne_eq, imp_self, forall_const, Nat.reduceEqDiff, Nat.reduceAdd, Nat.reduceSub, Nat.reduceMul, Nat.reduceLT, Nat.reduceLeDiff, Nat.reduceBEq, Nat.reduceDiv, Nat.reduceMod, Int.reduceToNat, Int.reduceNeg, Int.reduceAdd, Int.reduceSub, Int.reduceMul, Int.reduceEq, Int.reduceNe, Int.reduceLT, Int.reduceLE, Int.reduceGT, Int.reduceGE], by simp -implicitDefEqProofs (maxSteps := 1000000) (disch := omega) only [↓xsP, ↓vc_seq, xsQ, xsT, xsR, xsD, ↓reduceIte, reduceCtorEq, eq_self, ne_eq, imp_self, forall_const, Nat.reduceEqDiff, Nat.reduceAdd, Nat.reduceSub, Nat.reduceMul, Nat.reduceLT, Nat.reduceLeDiff, Nat.reduceBEq, Nat.reduceDiv, Nat.reduceMod, Int.reduceToNat, Int.reduceNeg, Int.reduceAdd, Int.reduceSub, Int.reduceMul, Int.reduceEq, Int.reduceNe, Int.reduceLT, Int.reduceLE, Int.reduceGT, Int.reduceGE, Int.cast_ofNat_Int], rfl, .inr ⟨rfl, rfl⟩⟩
  · rintro k fr M' ⟨i, x, hi, rfl, f0, f1, f5, f6, f40, f41, f42, rfl, hx⟩
    simp -implicitDefEqProofs (maxSteps := 1000000) (disch := omega) only [↓xsP, ↓vc_seq, xsQ, xsT, xsR, xsD, ↓reduceIte, reduceCtorEq, eq_self, ne_eq, imp_self, forall_const, Nat.reduceEqDiff, Nat.reduceAdd, Nat.reduceSub, Nat.reduceMul, Nat.reduceLT, Nat.reduceLeDiff, Nat.reduceBEq, Nat.reduceDiv, Nat.reduceMod, Int.reduceToNat, Int.reduceNeg, Int.reduceAdd, Int.reduceSub, Int.reduceMul, Int.reduceEq, Int.reduceNe, Int.reduceLT, Int.reduceLE, Int.reduceGT, Int.reduceGE, f0, f1, f5, f6, f40, f41, f42]
    refine condI_prop (fun hlt => ?_) (fun hlt => ?_)
    · have hil : i < b.length := by omega
      have hpw := putL_withR' hil
      have hpl := putL_len (b.take i)
      rw [List.length_take] at hpl
      simp -implicitDefEqProofs (maxSteps := 1000000) (disch := omega) only [↓xsP, ↓vc_seq, xsQ, xsT, xsR, xsD, ↓reduceIte, reduceCtorEq, eq_self, ne_eq, imp_self, forall_const, Nat.reduceEqDiff, Nat.reduceAdd, Nat.reduceSub, Nat.reduceMul, Nat.reduceLT, Nat.reduceLeDiff, Nat.reduceBEq, Nat.reduceDiv, Nat.reduceMod, Int.reduceToNat, Int.reduceNeg, Int.reduceAdd, Int.reduceSub, Int.reduceMul, Int.reduceEq, Int.reduceNe, Int.reduceLT, Int.reduceLE, Int.reduceGT, Int.reduceGE, f0, f1, f5, f6, f40, f41, f42]
      refine newI_intro fun id7 hid7 => ?_
      simp -implicitDefEqProofs (maxSteps := 1000000) (disch := omega) only [↓xsP, ↓vc_seq, xsQ, xsT, xsR, xsD, ↓reduceIte, reduceCtorEq, eq_self, ne_eq, imp_self, forall_const, Nat.reduceEqDiff, Nat.reduceAdd, Nat.reduceSub, Nat.reduceMul, Nat.reduceLT, Nat.reduceLeDiff, Nat.reduceBEq, Nat.reduceDiv, Nat.reduceMod, Int.reduceToNat, Int.reduceNeg, Int.reduceAdd, Int.reduceSub, Int.reduceMul, Int.reduceEq, Int.reduceNe, Int.reduceLT, Int.reduceLE, Int.reduceGT, Int.reduceGE, f0, f1, f5, f6, f40, f41, f42]
      refine call_of (withR_is hx (by omega) (b.getD i default) _) ?_
      simp -implicitDefEqProofs (maxSteps := 1000000) (disch := omega) only [↓xsP, ↓vc_seq, xsQ, xsT, xsR, xsD, ↓reduceIte, reduceCtorEq, eq_self, ne_eq, imp_self, forall_const, Nat.reduceEqDiff, Nat.reduceAdd, Nat.reduceSub, Nat.reduceMul, Nat.reduceLT, Nat.reduceLeDiff, Nat.reduceBEq, Nat.reduceDiv, Nat.reduceMod, Int.reduceToNat, Int.reduceNeg, Int.reduceAdd, Int.reduceSub, Int.reduceMul, Int.reduceEq, Int.reduceNe, Int.reduceLT, Int.reduceLE, Int.reduceGT, Int.reduceGE, f0, f1, f5, f6, f40, f41, f42]
      exact ⟨b.length - (i + 1), M', by omega, le_new (Mem.le_refl _) hid7, i + 1, .sl ((withR (putL (b.take i)) (b.getD i default)).map Pr.row), by omega, rfl, rfl, by simp, rfl, by rw [hpw]; exact .inl rfl⟩
    · simp -implicitDefEqProofs (maxSteps := 1000000) (disch := omega) only [↓xsP, ↓vc_seq, xsQ, xsT, xsR, xsD, ↓reduceIte, reduceCtorEq, eq_self, ne_eq, imp_self, forall_const, Nat.reduceEqDiff, Nat.reduceAdd, Nat.reduceSub, Nat.reduceMul, Nat.reduceLT, Nat.reduceLeDiff, Nat.reduceBEq, Nat.reduceDiv, Nat.reduceMod, Int.reduceToNat, Int.reduceNeg, Int.reduceAdd, Int.reduceSub, Int.reduceMul, Int.reduceEq, Int.reduceNe, Int.reduceLT, Int.reduceLE, Int.reduceGT, Int.reduceGE, f0, f1, f5, f6, f40, f41, f42]
      have hil : i = b.length := by omega
      rw [hil, List.take_of_length_le (Nat.le_refl _)] at hx
      have hpl := putL_len b
      have hasc := putL_asc b
      obtain ⟨b0, hb0⟩ : ∃ b0, putL b = b0 := ⟨_, rfl⟩
      rw [hb0] at hW hx hpl hasc
      refine newI_intro fun pb hpb => ?_
      obtain ⟨hW1, hB1⟩ := hW.grow hpb (.cells 26 [] 0)
      simp -implicitDefEqProofs (maxSteps := 1000000) (disch := omega) only [↓xsP, ↓vc_seq, xsQ, xsT, xsR, xsD, ↓reduceIte, reduceCtorEq, eq_self, ne_eq, imp_self, forall_const, Nat.reduceEqDiff, Nat.reduceAdd, Nat.reduceSub, Nat.reduceMul, Nat.reduceLT, Nat.reduceLeDiff, Nat.reduceBEq, Nat.reduceDiv, Nat.reduceMod, Int.reduceToNat, Int.reduceNeg, Int.reduceAdd, Int.reduceSub, Int.reduceMul, Int.reduceEq, Int.reduceNe, Int.reduceLT, Int.reduceLE, Int.reduceGT, Int.reduceGE, f0, f1, f5, f6, f40, f41, f42]
      refine app_ms _ _ _ _ 26 _ _ ti_27 rfl ti_26 (by kernel_rfl) (by decide) pb 0 _ (rows := []) (keep := 0) (b0.map Pr.row) (Mem.set_eq _ _ _) ?_ (Nat.le_refl _) (Nat.zero_le _) ?_ ?_ (fun idm hidm => ?_)
      · rcases hx with rfl | ⟨rfl, rfl⟩
        · simp -implicitDefEqProofs (maxSteps := 1000000) (disch := omega) only [↓xsP, ↓vc_seq, xsQ, xsT, xsR, xsD, ↓reduceIte, reduceCtorEq, eq_self, ne_eq, imp_self, forall_const, Nat.reduceEqDiff, Nat.reduceAdd, Nat.reduceSub, Nat.reduceMul, Nat.reduceLT, Nat.reduceLeDiff, Nat.reduceBEq, Nat.reduceDiv, Nat.reduceMod, Int.reduceToNat, Int.reduceNeg, Int.reduceAdd, Int.reduceSub, Int.reduceMul, Int.reduceEq, Int.reduceNe, Int.reduceLT, Int.reduceLE, Int.reduceGT, Int.reduceGE]
          rw [if_pos (rows2 b0)]
        · simp -implicitDefEqProofs (maxSteps := 1000000) (disch := omega) only [↓xsP, ↓vc_seq, xsQ, xsT, xsR, xsD, ↓reduceIte, reduceCtorEq, eq_self, ne_eq, imp_self, forall_const, Nat.reduceEqDiff, Nat.reduceAdd, Nat.reduceSub, Nat.reduceMul, Nat.reduceLT, Nat.reduceLeDiff, Nat.reduceBEq, Nat.reduceDiv, Nat.reduceMod, Int.reduceToNat, Int.reduceNeg, Int.reduceAdd, Int.reduceSub, Int.reduceMul, Int.reduceEq, Int.reduceNe, Int.reduceLT, Int.reduceLE, Int.reduceGT, Int.reduceGE]
      · exact Nat.le_trans (Nat.mul_le_mul_right _ (show 0 + (b0.map Pr.row).length ≤ 1000001 by simp; omega)) (by decide)
      · simp
        omega
      simp -implicitDefEqProofs (maxSteps := 1000000) (disch := omega) only [↓xsP, ↓vc_seq, xsQ, xsT, xsR, xsD, ↓reduceIte, reduceCtorEq, eq_self, ne_eq, imp_self, forall_const, Nat.reduceEqDiff, Nat.reduceAdd, Nat.reduceSub, Nat.reduceMul, Nat.reduceLT, Nat.reduceLeDiff, Nat.reduceBEq, Nat.reduceDiv, Nat.reduceMod, Int.reduceToNat, Int.reduceNeg, Int.reduceAdd, Int.reduceSub, Int.reduceMul, Int.reduceEq, Int.reduceNe, Int.reduceLT, Int.reduceLE, Int.reduceGT, Int.reduceGE, f0, f1, f5, f6, f40, f41, f42]
      have hW2 := hW1.app (Mem.set_eq _ _ _) hidm (.cells 26 (b0.map Pr.row) 0)
      obtain ⟨k1, hidm'⟩ := bnd_new hidm
      refine newI_intro fun pa hpa => ?_
      obtain ⟨hW3, hB3⟩ := hW2.grow hpa (bB (List.replicate 6 false))
      obtain ⟨k2, -⟩ := bnd_new hpa
      simp -implicitDefEqProofs (maxSteps := 1000000) (disch := omega) only [↓xsP, ↓vc_seq, xsQ, xsT, xsR, xsD, ↓reduceIte, reduceCtorEq, eq_self, ne_eq, imp_self, forall_const, Nat.reduceEqDiff, Nat.reduceAdd, Nat.reduceSub, Nat.reduceMul, Nat.reduceLT, Nat.reduceLeDiff, Nat.reduceBEq, Nat.reduceDiv, Nat.reduceMod, Int.reduceToNat, Int.reduceNeg, Int.reduceAdd, Int.reduceSub, Int.reduceMul, Int.reduceEq, Int.reduceNe, Int.reduceLT, Int.reduceLE, Int.reduceGT, Int.reduceGE, f0, f1, f5, f6, f40, f41, f42]
      refine newI_intro fun p1 hp1 => ?_
      obtain ⟨hW4, hB4⟩ := hW3.grow hp1 (bB (List.replicate 6 false))
      obtain ⟨k3, -⟩ := bnd_new hp1
      simp -implicitDefEqProofs (maxSteps := 1000000) (disch := omega) only [↓xsP, ↓vc_seq, xsQ, xsT, xsR, xsD, ↓reduceIte, reduceCtorEq, eq_self, ne_eq, imp_self, forall_const, Nat.reduceEqDiff, Nat.reduceAdd, Nat.reduceSub, Nat.reduceMul, Nat.reduceLT, Nat.reduceLeDiff, Nat.reduceBEq, Nat.reduceDiv, Nat.reduceMod, Int.reduceToNat, Int.reduceNeg, Int.reduceAdd, Int.reduceSub, Int.reduceMul, Int.reduceEq, Int.reduceNe, Int.reduceLT, Int.reduceLE, Int.reduceGT, Int.reduceGE, f0, f1, f5, f6, f40, f41, f42]
      refine newI_intro fun p2 hp2 => ?_
      obtain ⟨hW5, hB5⟩ := hW4.grow hp2 (bO (List.replicate 6 ⟨0, 0, 0, 0⟩))
      obtain ⟨k4, -⟩ := bnd_new hp2
      simp -implicitDefEqProofs (maxSteps := 1000000) (disch := omega) only [↓xsP, ↓vc_seq, xsQ, xsT, xsR, xsD, ↓reduceIte, reduceCtorEq, eq_self, ne_eq, imp_self, forall_const, Nat.reduceEqDiff, Nat.reduceAdd, Nat.reduceSub, Nat.reduceMul, Nat.reduceLT, Nat.reduceLeDiff, Nat.reduceBEq, Nat.reduceDiv, Nat.reduceMod, Int.reduceToNat, Int.reduceNeg, Int.reduceAdd, Int.reduceSub, Int.reduceMul, Int.reduceEq, Int.reduceNe, Int.reduceLT, Int.reduceLE, Int.reduceGT, Int.reduceGE, f0, f1, f5, f6, f40, f41, f42]
      refine newI_intro fun p3 hp3 => ?_
      obtain ⟨hW6, hB6⟩ := hW5.grow hp3 bT0
      obtain ⟨k5, -⟩ := bnd_new hp3
      simp -implicitDefEqProofs (maxSteps := 1000000) (disch := omega) only [↓xsP, ↓vc_seq, xsQ, xsT, xsR, xsD, ↓reduceIte, reduceCtorEq, eq_self, ne_eq, imp_self, forall_const, Nat.reduceEqDiff, Nat.reduceAdd, Nat.reduceSub, Nat.reduceMul, Nat.reduceLT, Nat.reduceLeDiff, Nat.reduceBEq, Nat.reduceDiv, Nat.reduceMod, Int.reduceToNat, Int.reduceNeg, Int.reduceAdd, Int.reduceSub, Int.reduceMul, Int.reduceEq, Int.reduceNe, Int.reduceLT, Int.reduceLE, Int.reduceGT, Int.reduceGE, f0, f1, f5, f6, f40, f41, f42]
      refine newI_intro fun p4 hp4 => ?_
      obtain ⟨hW7, hB7⟩ := hW6.grow hp4 (bN (List.replicate 6 0))
      obtain ⟨k6, -⟩ := bnd_new hp4
      simp -implicitDefEqProofs (maxSteps := 1000000) (disch := omega) only [↓xsP, ↓vc_seq, xsQ, xsT, xsR, xsD, ↓reduceIte, reduceCtorEq, eq_self, ne_eq, imp_self, forall_const, Nat.reduceEqDiff, Nat.reduceAdd, Nat.reduceSub, Nat.reduceMul, Nat.reduceLT, Nat.reduceLeDiff, Nat.reduceBEq, Nat.reduceDiv, Nat.reduceMod, Int.reduceToNat, Int.reduceNeg, Int.reduceAdd, Int.reduceSub, Int.reduceMul, Int.reduceEq, Int.reduceNe, Int.reduceLT, Int.reduceLE, Int.reduceGT, Int.reduceGE, f0, f1, f5, f6, f40, f41, f42]
      clear f0 f40 f41 f42 hlt hi hil hb0 hW hW1 hW2 hW3 hW4 hW5 hW6
      obtain ⟨M8, hM8⟩ : ∃ M8, M8 = ((((((((M'.set pb (.cells 26 [] 0)).del pb).set idm (.cells 26 (b0.map Pr.row) 0)).set pa (bB (List.replicate 6 false))).set p1 (bB (List.replicate 6 false))).set p2 (bO (List.replicate 6 ⟨0, 0, 0, 0⟩))).set p3 bT0).set p4 (bN (List.replicate 6 0))) := ⟨_, rfl⟩
      refine loopI_gs (M' := (M8.set idm (.cells 26 (b0.map Pr.row) b0.length)).set p3 (bT (List.replicate 6 ans0))) ?_ ?_
      · rw [hM8]
        refine gs_first ?_ ?_ (by omega) <;> simp (disch := omega) only [Mem.set_ne, Mem.set_eq] <;> rfl
      have hI := LocB.init (M := M) (b0 := b0) hB1 k1 k2 k3 k4 k5 k6 (.cells 26 [] 0) (.cells 26 (b0.map Pr.row) 0) bT0 (.cells 73 [] 0) rfl
      have hW8 := (hW7.put (i := idm) (Y := .cells 26 (b0.map Pr.row) 0) (by simp (disch := omega) only [Mem.set_ne, Mem.set_eq]) (.cells 26 (b0.map Pr.row) b0.length)).put (i := p3) (Y := bT0) (by simp (disch := omega) only [Mem.set_ne, Mem.set_eq]) (bT (List.replicate 6 ans0))
      rw [← hM8] at hW8
      clear hM8 hW7 hpb hidm hpa hp1 hp2 hp3 hp4
      generalize Mem.set (Mem.set M8 _ _) _ _ = N1 at hW8 ⊢
      generalize Mem.set (Mem.set (Mem.set _ p4 _) _ _) _ _ = B1 at hI hW8
      obtain ⟨p, hp⟩ : ∃ p : Ids, p = ⟨pa, p1, p2, p3, p4⟩ := ⟨_, rfl⟩
      rw [← hp] at hI
      clear hB1 k1 hidm' hB3 k2 hB4 k3 hB5 k4 hB6 k5 hB7 k6 M8
      have fp : Lf.ptr pa 0 0 = .ptr p.a 0 0 ∧ Lf.ptr p1 0 0 = .ptr p.b 0 0 ∧ Lf.ptr p2 0 0 = .ptr p.c 0 0 ∧ Lf.ptr p3 0 0 = .ptr p.d 0 0 ∧ Lf.ptr p4 0 0 = .ptr p.e 0 0 := by rw [hp]; exact ⟨rfl, rfl, rfl, rfl, rfl⟩
      rw [fp.1, fp.2.1, fp.2.2.1, fp.2.2.2.1, fp.2.2.2.2]
      generalize Lf.ms idm 0 b0.length = xf0 at hI ⊢
      clear fp hp
      have hbl : b0.length ≤ 50 := by omega
      clear hpl
      refine xloop (by kernel_rfl) (fun k fr M2 => ∃ (i : Nat) (x xf xh xw o : Lf) (W : Wit) (L : Loc) (h : List Evt) (B : Mem) (good : Bool), i ≤ l.length ∧ k = l.length - i ∧ fr 5 = .l (.ptr id 0 0) ∧ fr 6 = .l x ∧ fr 9 = .l xf ∧ fr 10 = .l (.ptr p.a 0 0) ∧ fr 11 = .l (.ptr p.b 0 0) ∧ fr 12 = .l (.ptr p.c 0 0) ∧ fr 13 = .l (.ptr p.d 0 0) ∧ fr 14 = .l (.ptr p.e 0 0) ∧ fr 15 = .l xh ∧ fr 16 = .l xw ∧ fr 17 = .l (.int .i64 W.calls) ∧ fr 18 = .l (.bool good) ∧
        fr 53 = .l (.sl (l.map Stp.row)) ∧ fr 54 = .l (.int .i64 l.length) ∧ fr 55 = .l (.int .i64 i) ∧ PlaysI M M2 id mid o b0 p xf xh xw B i x W L h good) l.length ?_ ?_
      · refine ⟨0, x, xf0, .nils, .nils, .nils, ⟨b0, List.replicate 6 wk0, 0, []⟩, ⟨List.replicate 6 false, List.replicate 6 false, List.replicate 6 ⟨0, 0, 0, 0⟩, List.replicate 6 ans0, List.replicate 6 0⟩, [], B1, true, Nat.zero_le _, rfl, by simp -implicitDefEqProofs (maxSteps := 1000000) (disch := omega) only [↓xsP, ↓vc_seq, xsQ, xsT, xsR, xsD, ↓reduceIte, reduceCtorEq, eq_self, ne_eq, imp_self, forall_const, Nat.reduceEqDiff, Nat.reduceAdd, Nat.reduceSub, Nat.reduceMul, Nat.reduceLT, Nat.reduceLeDiff, Nat.reduceBEq, Nat.reduceDiv, Nat.reduceMod, Int.reduceToNat, Int.reduceNeg, Int.reduceAdd, Int.reduceSub, Int.reduceMul, Int.reduceEq, Int.reduceNe, Int.reduceLT, Int.reduceLE, Int.reduceGT, Int.reduceGE, f5], by simp -implicitDefEqProofs (maxSteps := 1000000) (disch := omega) only [↓xsP, ↓vc_seq, xsQ, xsT, xsR, xsD, ↓reduceIte, reduceCtorEq, eq_self, ne_eq, imp_self, forall_const, Nat.reduceEqDiff, Nat.reduceAdd, Nat.reduceSub, Nat.reduceMul, Nat.reduceLT, Nat.reduceLeDiff, Nat.reduceBEq, Nat.reduceDiv, Nat.reduceMod, Int.reduceToNat, Int.reduceNeg, Int.reduceAdd, Int.reduceSub, Int.reduceMul, Int.reduceEq, Int.reduceNe, Int.reduceLT, Int.reduceLE, Int.reduceGT, Int.reduceGE, f6], by simp -implicitDefEqProofs (maxSteps := 1000000) (disch := omega) only [↓xsP, ↓vc_seq, xsQ, xsT, xsR, xsD, ↓reduceIte, reduceCtorEq, eq_self, ne_eq, imp_self, forall_const, Nat.reduceEqDiff, Nat.reduceAdd, Nat.reduceSub, Nat.reduceMul, Nat.reduceLT, Nat.reduceLeDiff, Nat.reduceBEq, Nat.reduceDiv, Nat.reduceMod, Int.reduceToNat, Int.reduceNeg, Int.reduceAdd, Int.reduceSub, Int.reduceMul, Int.reduceEq, Int.reduceNe, Int.reduceLT, Int.reduceLE, Int.reduceGT, Int.reduceGE], by simp -implicitDefEqProofs (maxSteps := 1000000) (disch := omega) only [↓xsP, ↓vc_seq, xsQ, xsT, xsR, xsD, ↓reduceIte, reduceCtorEq, eq_self, ne_eq, imp_self, forall_const, Nat.reduceEqDiff, Nat.reduceAdd, Nat.reduceSub, Nat.reduceMul, Nat.reduceLT, Nat.reduceLeDiff, Nat.reduceBEq, Nat.reduceDiv, Nat.reduceMod, Int.reduceToNat, Int.reduceNeg, Int.reduceAdd, Int.reduceSub, Int.reduceMul, Int.reduceEq, Int.reduceNe, Int.reduceLT, Int.reduceLE, Int.reduceGT, Int.reduceGE], by simp -implicitDefEqProofs (maxSteps := 1000000) (disch := omega) only [↓xsP, ↓vc_seq, xsQ, xsT, xsR, xsD, ↓reduceIte, reduceCtorEq, eq_self, ne_eq, imp_self, forall_const, Nat.reduceEqDiff, Nat.reduceAdd, Nat.reduceSub, Nat.reduceMul, Nat.reduceLT, Nat.reduceLeDiff, Nat.reduceBEq, Nat.reduceDiv, Nat.reduceMod, Int.reduceToNat, Int.reduceNeg, Int.reduceAdd, Int.reduceSub, Int.reduceMul, Int.reduceEq, Int.reduceNe, Int.reduceLT, Int.reduceLE, Int.reduceGT, Int.reduceGE], by simp -implicitDefEqProofs (maxSteps := 1000000) (disch := omega) only [↓xsP, ↓vc_seq, xsQ, xsT, xsR, xsD, ↓reduceIte, reduceCtorEq, eq_self, ne_eq, imp_self, forall_const, Nat.reduceEqDiff, Nat.reduceAdd, Nat.reduceSub, Nat.reduceMul, Nat.reduceLT, Nat.reduceLeDiff, Nat.reduceBEq, Nat.reduceDiv, Nat.reduceMod, Int.reduceToNat, Int.reduceNeg, Int.reduceAdd, Int.reduceSub, Int.reduceMul, Int.reduceEq, Int.reduceNe, Int.reduceLT, Int.reduceLE, Int.reduceGT, Int.reduceGE], by simp -implicitDefEqProofs (maxSteps := 1000000) (disch := omega) only [↓xsP, ↓vc_seq, xsQ, xsT, xsR, xsD, ↓reduceIte, reduceCtorEq, eq_self, ne_eq, imp_self, forall_const, Nat.reduceEqDiff, Nat.reduceAdd, Nat.reduceSub, Nat.reduceMul, Nat.reduceLT, Nat.reduceLeDiff, Nat.reduceBEq, Nat.reduceDiv, Nat.reduceMod, Int.reduceToNat, Int.reduceNeg, Int.reduceAdd, Int.reduceSub, Int.reduceMul, Int.reduceEq, Int.reduceNe, Int.reduceLT, Int.reduceLE, Int.reduceGT, Int.reduceGE], by simp -implicitDefEqProofs (maxSteps := 1000000) (disch := omega) only [↓xsP, ↓vc_seq, xsQ, xsT, xsR, xsD, ↓reduceIte, reduceCtorEq, eq_self, ne_eq, imp_self, forall_const, Nat.reduceEqDiff, Nat.reduceAdd, Nat.reduceSub, Nat.reduceMul, Nat.reduceLT, Nat.reduceLeDiff, Nat.reduceBEq, Nat.reduceDiv, Nat.reduceMod, Int.reduceToNat, Int.reduceNeg, Int.reduceAdd, Int.reduceSub, Int.reduceMul, Int.reduceEq, Int.reduceNe, Int.reduceLT, Int.reduceLE, Int.reduceGT, Int.reduceGE], by simp -implicitDefEqProofs (maxSteps := 1000000) (disch := omega) only [↓xsP, ↓vc_seq, xsQ, xsT, xsR, xsD, ↓reduceIte, reduceCtorEq, eq_self, ne_eq, imp_self, forall_const, Nat.reduceEqDiff, Nat.reduceAdd, Nat.reduceSub, Nat.reduceMul, Nat.reduceLT, Nat.reduceLeDiff, Nat.reduceBEq, Nat.reduceDiv, Nat.reduceMod, Int.reduceToNat, Int.reduceNeg, Int.reduceAdd, Int.reduceSub, Int.reduceMul, Int.reduceEq, Int.reduceNe, Int.reduceLT, Int.reduceLE, Int.reduceGT, Int.reduceGE], by simp -implicitDefEqProofs (maxSteps := 1000000) (disch := omega) only [↓xsP, ↓vc_seq, xsQ, xsT, xsR, xsD, ↓reduceIte, reduceCtorEq, eq_self, ne_eq, imp_self, forall_const, Nat.reduceEqDiff, Nat.reduceAdd, Nat.reduceSub, Nat.reduceMul, Nat.reduceLT, Nat.reduceLeDiff, Nat.reduceBEq, Nat.reduceDiv, Nat.reduceMod, Int.reduceToNat, Int.reduceNeg, Int.reduceAdd, Int.reduceSub, Int.reduceMul, Int.reduceEq, Int.reduceNe, Int.reduceLT, Int.reduceLE, Int.reduceGT, Int.reduceGE], by simp -implicitDefEqProofs (maxSteps := 1000000) (disch := omega) only [↓xsP, ↓vc_seq, xsQ, xsT, xsR, xsD, ↓reduceIte, reduceCtorEq, eq_self, ne_eq, imp_self, forall_const, Nat.reduceEqDiff, Nat.reduceAdd, Nat.reduceSub, Nat.reduceMul, Nat.reduceLT, Nat.reduceLeDiff, Nat.reduceBEq, Nat.reduceDiv, Nat.reduceMod, Int.reduceToNat, Int.reduceNeg, Int.reduceAdd, Int.reduceSub, Int.reduceMul, Int.reduceEq, Int.reduceNe, Int.reduceLT, Int.reduceLE, Int.reduceGT, Int.reduceGE, Int.cast_ofNat_Int], by simp -implicitDefEqProofs (maxSteps := 1000000) (disch := omega) only [↓xsP, ↓vc_seq, xsQ, xsT, xsR, xsD, ↓reduceIte, reduceCtorEq, eq_self, ne_eq, imp_self, forall_const, Nat.reduceEqDiff, Nat.reduceAdd, Nat.reduceSub, Nat.reduceMul, Nat.reduceLT, Nat.reduceLeDiff, Nat.reduceBEq, Nat.reduceDiv, Nat.reduceMod, Int.reduceToNat, Int.reduceNeg, Int.reduceAdd, Int.reduceSub, Int.reduceMul, Int.reduceEq, Int.reduceNe, Int.reduceLT, Int.reduceLE, Int.reduceGT, Int.reduceGE], by simp -implicitDefEqProofs (maxSteps := 1000000) (disch := omega) only [↓xsP, ↓vc_seq, xsQ, xsT, xsR, xsD, ↓reduceIte, reduceCtorEq, eq_self, ne_eq, imp_self, forall_const, Nat.reduceEqDiff, Nat.reduceAdd, Nat.reduceSub, Nat.reduceMul, Nat.reduceLT, Nat.reduceLeDiff, Nat.reduceBEq, Nat.reduceDiv, Nat.reduceMod, Int.reduceToNat, Int.reduceNeg, Int.reduceAdd, Int.reduceSub, Int.reduceMul, Int.reduceEq, Int.reduceNe, Int.reduceLT, Int.reduceLE, Int.reduceGT, Int.reduceGE, f1], by simp -implicitDefEqProofs (maxSteps := 1000000) (disch := omega) only [↓xsP, ↓vc_seq, xsQ, xsT, xsR, xsD, ↓reduceIte, reduceCtorEq, eq_self, ne_eq, imp_self, forall_const, Nat.reduceEqDiff, Nat.reduceAdd, Nat.reduceSub, Nat.reduceMul, Nat.reduceLT, Nat.reduceLeDiff, Nat.reduceBEq, Nat.reduceDiv, Nat.reduceMod, Int.reduceToNat, Int.reduceNeg, Int.reduceAdd, Int.reduceSub, Int.reduceMul, Int.reduceEq, Int.reduceNe, Int.reduceLT, Int.reduceLE, Int.reduceGT, Int.reduceGE], by simp -implicitDefEqProofs (maxSteps := 1000000) (disch := omega) only [↓xsP, ↓vc_seq, xsQ, xsT, xsR, xsD, ↓reduceIte, reduceCtorEq, eq_self, ne_eq, imp_self, forall_const, Nat.reduceEqDiff, Nat.reduceAdd, Nat.reduceSub, Nat.reduceMul, Nat.reduceLT, Nat.reduceLeDiff, Nat.reduceBEq, Nat.reduceDiv, Nat.reduceMod, Int.reduceToNat, Int.reduceNeg, Int.reduceAdd, Int.reduceSub, Int.reduceMul, Int.reduceEq, Int.reduceNe, Int.reduceLT, Int.reduceLE, Int.reduceGT, Int.reduceGE, Int.cast_ofNat_Int], hx, hI, hW8, LRel.init b0, by show b0.length ≤ _; omega, Nat.le_refl _, Nat.le_refl _, Nat.le_refl _, by simp, hasc, fun _ => ⟨fun _ => ans0, PInv.init hasc _⟩⟩
      · clear hx hI hW8 f1 f5 f6 N1 B1 x i
        rintro k fr M2 ⟨i, x, xf, xh, xw, o, W, L, h, B, good, hi, rfl, f5, f6, f9, f10, f11, f12, f13, f14, f15, f16, f17, f18, f53, f54, f55, I⟩
        simp -implicitDefEqProofs (maxSteps := 1000000) (disch := omega) only [↓xsP, ↓vc_seq, xsQ, xsT, xsR, xsD, ↓reduceIte, reduceCtorEq, eq_self, ne_eq, imp_self, forall_const, Nat.reduceEqDiff, Nat.reduceAdd, Nat.reduceSub, Nat.reduceMul, Nat.reduceLT, Nat.reduceLeDiff, Nat.reduceBEq, Nat.reduceDiv, Nat.reduceMod, Int.reduceToNat, Int.reduceNeg, Int.reduceAdd, Int.reduceSub, Int.reduceMul, Int.reduceEq, Int.reduceNe, Int.reduceLT, Int.reduceLE, Int.reduceGT, Int.reduceGE, f5, f6, f9, f10, f11, f12, f13, f14, f15, f16, f17, f18, f53, f54, f55]
        refine condI_prop (fun hlt => ?_) (fun hlt => ?_)
        · have hil : i < l.length := by omega
          simp -implicitDefEqProofs (maxSteps := 1000000) (disch := omega) only [↓xsP, ↓vc_seq, xsQ, xsT, xsR, xsD, ↓reduceIte, reduceCtorEq, eq_self, ne_eq, imp_self, forall_const, Nat.reduceEqDiff, Nat.reduceAdd, Nat.reduceSub, Nat.reduceMul, Nat.reduceLT, Nat.reduceLeDiff, Nat.reduceBEq, Nat.reduceDiv, Nat.reduceMod, Int.reduceToNat, Int.reduceNeg, Int.reduceAdd, Int.reduceSub, Int.reduceMul, Int.reduceEq, Int.reduceNe, Int.reduceLT, Int.reduceLE, Int.reduceGT, Int.reduceGE, f5, f6, f9, f10, f11, f12, f13, f14, f15, f16, f17, f18, f53, f54, f55, ia_stp, row_stp]
          refine newI_intro fun id20 hid20 => ?_
          obtain ⟨s, hs⟩ : ∃ s, l.getD i default = s := ⟨_, rfl⟩
          obtain ⟨hW1, hB1⟩ := I.win.grow hid20 (.cells 31 [s.row] 0)
          have hI1 := I.loc.grow (hB1 _ (Nat.le_refl _)) (.cells 31 [s.row] 0)
          have h20 := Mem.set_eq B id20 (.cells 31 [s.row] 0)
          have hpl : s.ans.pairs.length ≤ 50 := hL.2 s (by rw [← hs]; exact getD_mem' l default hil)
          simp -implicitDefEqProofs (maxSteps := 1000000) (disch := omega) only [↓xsP, xsQ, xsT, xsR, xsD, ↓reduceIte, reduceCtorEq, eq_self, ne_eq, imp_self, forall_const, Nat.reduceEqDiff, Nat.reduceAdd, Nat.reduceSub, Nat.reduceMul, Nat.reduceLT, Nat.reduceLeDiff, Nat.reduceBEq, Nat.reduceDiv, Nat.reduceMod, Int.reduceToNat, Int.reduceNeg, Int.reduceAdd, Int.reduceSub, Int.reduceMul, Int.reduceEq, Int.reduceNe, Int.reduceLT, Int.reduceLE, Int.reduceGT, Int.reduceGE, f5, f6, f9, f10, f11, f12, f13, f14, f15, f16, f17, f18, f53, f54, f55, ia_stp, row_stp, hs]
          rw [row_stp] at hW1 hI1 h20
          generalize Mem.set M2 id20 _ = N1 at hW1 ⊢
          generalize Mem.set B id20 _ = B1 at hW1 hI1 h20
          have I1 : PlaysI M N1 id mid o b0 p xf xh xw B1 i x W L h good := { I with loc := hI1, win := hW1 }
          clear I hI1 hB1 hid20
          have hlc := I1.lc
          have hls := I1.ls
          have hlo := I1.lo
          have hlh := I1.lh
          have hL1 : l.length ≤ 120 := hL.1
          refine vc_seq_of ?_
          simp -implicitDefEqProofs (maxSteps := 1000000) (disch := omega) only [↓xsP, xsQ, xsT, xsR, xsD, ↓reduceIte, reduceCtorEq, eq_self, ne_eq, imp_self, forall_const, Nat.reduceEqDiff, Nat.reduceAdd, Nat.reduceSub, Nat.reduceMul, Nat.reduceLT, Nat.reduceLeDiff, Nat.reduceBEq, Nat.reduceDiv, Nat.reduceMod, Int.reduceToNat, Int.reduceNeg, Int.reduceAdd, Int.reduceSub, Int.reduceMul, Int.reduceEq, Int.reduceNe, Int.reduceLT, Int.reduceLE, Int.reduceGT, Int.reduceGE, f5, f6, f9, f10, f11, f12, f13, f14, f15, f16, f17, f18, f53, f54, f55, hW1.le _ _ h20]
          obtain ⟨inn, hinn⟩ : ∃ inn, inn = decide (0 ≤ s.who ∧ s.who < 6) := ⟨_, rfl⟩
          refine vc_cut (fun fr' M3 => M3 = N1 ∧ fr' 5 = .l (.ptr id 0 0) ∧ fr' 6 = .l x ∧ fr' 9 = .l xf ∧ fr' 10 = .l (.ptr p.a 0 0) ∧ fr' 11 = .l (.ptr p.b 0 0) ∧ fr' 12 = .l (.ptr p.c 0 0) ∧ fr' 13 = .l (.ptr p.d 0 0) ∧ fr' 14 = .l (.ptr p.e 0 0) ∧ fr' 15 = .l xh ∧ fr' 16 = .l xw ∧ fr' 17 = .l (.int .i64 W.calls) ∧ fr' 18 = .l (.bool good) ∧ fr' 53 = .l (.sl (l.map Stp.row)) ∧ fr' 54 = .l (.int .i64 l.length) ∧ fr' 55 = .l (.int .i64 i) ∧ fr' 20 = .l (.ptr id20 0 0) ∧ fr' 21 = .l (.int .i64 s.who) ∧ fr' 22 = .l (.bool inn)) ?_ ?_
          · simp -implicitDefEqProofs (maxSteps := 1000000) (disch := omega) only [↓xsP, ↓vc_seq, xsQ, xsT, xsR, xsD, ↓reduceIte, reduceCtorEq, eq_self, ne_eq, imp_self, forall_const, Nat.reduceEqDiff, Nat.reduceAdd, Nat.reduceSub, Nat.reduceMul, Nat.reduceLT, Nat.reduceLeDiff, Nat.reduceBEq, Nat.reduceDiv, Nat.reduceMod, Int.reduceToNat, Int.reduceNeg, Int.reduceAdd, Int.reduceSub, Int.reduceMul, Int.reduceEq, Int.reduceNe, Int.reduceLT, Int.reduceLE, Int.reduceGT, Int.reduceGE, f5, f6, f9, f10, f11, f12, f13, f14, f15, f16, f17, f18, f53, f54, f55]
            refine gI_prop (fun h2 => ?_) (fun h2 => ?_)
            · simp -implicitDefEqProofs (maxSteps := 1000000) (disch := omega) only [↓xsP, ↓vc_seq, xsQ, xsT, xsR, xsD, ↓reduceIte, reduceCtorEq, eq_self, ne_eq, imp_self, forall_const, Nat.reduceEqDiff, Nat.reduceAdd, Nat.reduceSub, Nat.reduceMul, Nat.reduceLT, Nat.reduceLeDiff, Nat.reduceBEq, Nat.reduceDiv, Nat.reduceMod, Int.reduceToNat, Int.reduceNeg, Int.reduceAdd, Int.reduceSub, Int.reduceMul, Int.reduceEq, Int.reduceNe, Int.reduceLT, Int.reduceLE, Int.reduceGT, Int.reduceGE, f5, f6, f9, f10, f11, f12, f13, f14, f15, f16, f17, f18, f53, f54, f55, h2]
              have e : inn = decide (s.who < 6) := by rw [hinn]; exact decide_eq_decide.2 ⟨fun h => h.2, fun h => ⟨h2, h⟩⟩
              rw [e]
            · simp -implicitDefEqProofs (maxSteps := 1000000) (disch := omega) only [↓xsP, ↓vc_seq, xsQ, xsT, xsR, xsD, ↓reduceIte, reduceCtorEq, eq_self, ne_eq, imp_self, forall_const, Nat.reduceEqDiff, Nat.reduceAdd, Nat.reduceSub, Nat.reduceMul, Nat.reduceLT, Nat.reduceLeDiff, Nat.reduceBEq, Nat.reduceDiv, Nat.reduceMod, Int.reduceToNat, Int.reduceNeg, Int.reduceAdd, Int.reduceSub, Int.reduceMul, Int.reduceEq, Int.reduceNe, Int.reduceLT, Int.reduceLE, Int.reduceGT, Int.reduceGE, f5, f6, f9, f10, f11, f12, f13, f14, f15, f16, f17, f18, f53, f54, f55, h2]
              rw [hinn, decide_eq_false (fun h => h2 h.1)]
          clear f5 f6 f9 f10 f11 f12 f13 f14 f15 f16 f17 f18 f53 f54 f55
          rintro fr M3 ⟨rfl, f5, f6, f9, f10, f11, f12, f13, f14, f15, f16, f17, f18, f53, f54, f55, f20, f21, f22⟩
          refine vc_cut (fun fr' M4 => ∃ (x xh xw o : Lf) (W : Wit) (L : Loc) (h : List Evt) (B : Mem) (good : Bool), fr' 5 = .l (.ptr id 0 0) ∧ fr' 6 = .l x ∧ fr' 9 = .l xf ∧ fr' 10 = .l (.ptr p.a 0 0) ∧ fr' 11 = .l (.ptr p.b 0 0) ∧ fr' 12 = .l (.ptr p.c 0 0) ∧ fr' 13 = .l (.ptr p.d 0 0) ∧ fr' 14 = .l (.ptr p.e 0 0) ∧ fr' 15 = .l xh ∧ fr' 16 = .l xw ∧ fr' 17 = .l (.int .i64 W.calls) ∧ fr' 18 = .l (.bool good) ∧ fr' 53 = .l (.sl (l.map Stp.row)) ∧ fr' 54 = .l (.int .i64 l.length) ∧ fr' 55 = .l (.int .i64 i) ∧ fr' 20 = .l (.ptr id20 0 0) ∧ fr' 21 = .l (.int .i64 s.who) ∧ fr' 22 = .l (.bool inn) ∧ PlaysI M M4 id mid o b0 p xf xh xw B (i + 1) x W L h good) ?_ ?_
          · have hN20 := I1.win.le _ _ h20
            simp -implicitDefEqProofs (maxSteps := 1000000) (disch := omega) only [↓xsP, ↓vc_seq, xsQ, xsT, xsR, xsD, ↓reduceIte, reduceCtorEq, eq_self, ne_eq, imp_self, forall_const, Nat.reduceEqDiff, Nat.reduceAdd, Nat.reduceSub, Nat.reduceMul, Nat.reduceLT, Nat.reduceLeDiff, Nat.reduceBEq, Nat.reduceDiv, Nat.reduceMod, Int.reduceToNat, Int.reduceNeg, Int.reduceAdd, Int.reduceSub, Int.reduceMul, Int.reduceEq, Int.reduceNe, Int.reduceLT, Int.reduceLE, Int.reduceGT, Int.reduceGE, f5, f6, f9, f10, f11, f12, f13, f14, f15, f16, f17, f18, f53, f54, f55, f20, f21, f22, hN20]
            refine condI_prop (fun hdo => ?_) (fun hdo => ?_)
            · cases hic : inn with
              | false =>
                simp -implicitDefEqProofs (maxSteps := 1000000) (disch := omega) only [↓xsP, ↓vc_seq, xsQ, xsT, xsR, xsD, ↓reduceIte, reduceCtorEq, eq_self, ne_eq, imp_self, forall_const, Nat.reduceEqDiff, Nat.reduceAdd, Nat.reduceSub, Nat.reduceMul, Nat.reduceLT, Nat.reduceLeDiff, Nat.reduceBEq, Nat.reduceDiv, Nat.reduceMod, Int.reduceToNat, Int.reduceNeg, Int.reduceAdd, Int.reduceSub, Int.reduceMul, Int.reduceEq, Int.reduceNe, Int.reduceLT, Int.reduceLE, Int.reduceGT, Int.reduceGE, f5, f6, f9, f10, f11, f12, f13, f14, f15, f16, f17, f18, f53, f54, f55, f20, f21, f22, hic, hN20, beq_self_eq_true]
                refine call_of (call_out id s.who s.op _ (by rw [hinn] at hic; have := of_decide_eq_false hic; omega)) ?_
                simp -implicitDefEqProofs (maxSteps := 1000000) (disch := omega) only [↓xsP, ↓vc_seq, xsQ, xsT, xsR, xsD, ↓reduceIte, reduceCtorEq, eq_self, ne_eq, imp_self, forall_const, Nat.reduceEqDiff, Nat.reduceAdd, Nat.reduceSub, Nat.reduceMul, Nat.reduceLT, Nat.reduceLeDiff, Nat.reduceBEq, Nat.reduceDiv, Nat.reduceMod, Int.reduceToNat, Int.reduceNeg, Int.reduceAdd, Int.reduceSub, Int.reduceMul, Int.reduceEq, Int.reduceNe, Int.reduceLT, Int.reduceLE, Int.reduceGT, Int.reduceGE, f5, f6, f9, f10, f11, f12, f13, f14, f15, f16, f17, f18, f53, f54, f55, f20, f21, f22, hic, hN20, beq_self_eq_true]
                exact ⟨x, xh, xw, o, W, L, h, B1, good, rfl, rfl, rfl, rfl, rfl, I1.up⟩
              | true =>
                obtain ⟨n, hn, hn6⟩ : ∃ n : Nat, s.who = (n : Int) ∧ n < 6 := by rw [hinn] at hic; have := of_decide_eq_true hic; exact ⟨s.who.toNat, by omega, by omega⟩
                have ha := I1.win.le _ _ I1.loc.ma
                rw [bB] at ha
                have hq : (0 ≤ (n : Int) ∧ (n : Int) < ((6 : Nat) : Int)) = True := eq_true ⟨by omega, by omega⟩
                simp -implicitDefEqProofs (maxSteps := 1000000) (disch := omega) only [↓xsP, ↓vc_seq, xsQ, xsT, xsR, xsD, ↓reduceIte, reduceCtorEq, eq_self, ne_eq, imp_self, forall_const, Nat.reduceEqDiff, Nat.reduceAdd, Nat.reduceSub, Nat.reduceMul, Nat.reduceLT, Nat.reduceLeDiff, Nat.reduceBEq, Nat.reduceDiv, Nat.reduceMod, Int.reduceToNat, Int.reduceNeg, Int.reduceAdd, Int.reduceSub, Int.reduceMul, Int.reduceEq, Int.reduceNe, Int.reduceLT, Int.reduceLE, Int.reduceGT, Int.reduceGE, f5, f6, f9, f10, f11, f12, f13, f14, f15, f16, f17, f18, f53, f54, f55, f20, f21, f22, hic, hN20, beq_self_eq_true, hn, ha, arr_bool (show n < L.on.length by rw [I1.loc.la]; exact hn6)]
                rw [if_pos ⟨by omega, by omega⟩]
                have hd := arr_bool (show n < L.on.length by rw [I1.loc.la]; exact hn6)
                rw [I1.rel.on n hn6] at hd
                cases hbz : (W.ws.getD n default).busy with
                | true =>
                  have ec : canCall W n s.op = false := by rw [canCall, hbz]; rfl
                  simp -implicitDefEqProofs (maxSteps := 1000000) (disch := omega) only [↓xsP, ↓vc_seq, xsQ, xsT, xsR, xsD, ↓reduceIte, reduceCtorEq, eq_self, ne_eq, imp_self, forall_const, Nat.reduceEqDiff, Nat.reduceAdd, Nat.reduceSub, Nat.reduceMul, Nat.reduceLT, Nat.reduceLeDiff, Nat.reduceBEq, Nat.reduceDiv, Nat.reduceMod, Int.reduceToNat, Int.reduceNeg, Int.reduceAdd, Int.reduceSub, Int.reduceMul, Int.reduceEq, Int.reduceNe, Int.reduceLT, Int.reduceLE, Int.reduceGT, Int.reduceGE, f5, f6, f9, f10, f11, f12, f13, f14, f15, f16, f17, f18, f53, f54, f55, f20, f21, f22, hic, hN20, beq_self_eq_true, hn, ha, hd, hbz]
                  refine callI_of ((call_in I1.win (by omega) n hn6 s.op).mono ?_)
                  rintro _ N2 ⟨rfl, hW2⟩
                  rw [ec, if_neg (by simp)] at hW2
                  rw [ec]
                  simp -implicitDefEqProofs (maxSteps := 1000000) (disch := omega) only [↓xsP, ↓vc_seq, xsQ, xsT, xsR, xsD, ↓reduceIte, reduceCtorEq, eq_self, ne_eq, imp_self, forall_const, Nat.reduceEqDiff, Nat.reduceAdd, Nat.reduceSub, Nat.reduceMul, Nat.reduceLT, Nat.reduceLeDiff, Nat.reduceBEq, Nat.reduceDiv, Nat.reduceMod, Int.reduceToNat, Int.reduceNeg, Int.reduceAdd, Int.reduceSub, Int.reduceMul, Int.reduceEq, Int.reduceNe, Int.reduceLT, Int.reduceLE, Int.reduceGT, Int.reduceGE, f5, f6, f9, f10, f11, f12, f13, f14, f15, f16, f17, f18, f53, f54, f55, f20, f21, f22, hic, hN20, beq_self_eq_true]
                  exact ⟨x, xh, xw, o, W, L, h, B1, good, rfl, rfl, rfl, rfl, rfl, PlaysI.up { I1 with win := hW2 }⟩
                | false =>
                  simp -implicitDefEqProofs (maxSteps := 1000000) (disch := omega) only [↓xsP, ↓vc_seq, xsQ, xsT, xsR, xsD, ↓reduceIte, reduceCtorEq, eq_self, ne_eq, imp_self, forall_const, Nat.reduceEqDiff, Nat.reduceAdd, Nat.reduceSub, Nat.reduceMul, Nat.reduceLT, Nat.reduceLeDiff, Nat.reduceBEq, Nat.reduceDiv, Nat.reduceMod, Int.reduceToNat, Int.reduceNeg, Int.reduceAdd, Int.reduceSub, Int.reduceMul, Int.reduceEq, Int.reduceNe, Int.reduceLT, Int.reduceLE, Int.reduceGT, Int.reduceGE, f5, f6, f9, f10, f11, f12, f13, f14, f15, f16, f17, f18, f53, f54, f55, f20, f21, f22, hic, hN20, beq_self_eq_true, hn, ha, hd, hbz]
                  refine call_of (mayOpR_spec s.op _) ?_
                  cases hmo : mayOpB s.op with
                  | false =>
                    have ec : canCall W n s.op = false := by rw [canCall, hmo, Bool.and_false]
                    simp -implicitDefEqProofs (maxSteps := 1000000) (disch := omega) only [↓xsP, ↓vc_seq, xsQ, xsT, xsR, xsD, ↓reduceIte, reduceCtorEq, eq_self, ne_eq, imp_self, forall_const, Nat.reduceEqDiff, Nat.reduceAdd, Nat.reduceSub, Nat.reduceMul, Nat.reduceLT, Nat.reduceLeDiff, Nat.reduceBEq, Nat.reduceDiv, Nat.reduceMod, Int.reduceToNat, Int.reduceNeg, Int.reduceAdd, Int.reduceSub, Int.reduceMul, Int.reduceEq, Int.reduceNe, Int.reduceLT, Int.reduceLE, Int.reduceGT, Int.reduceGE, f5, f6, f9, f10, f11, f12, f13, f14, f15, f16, f17, f18, f53, f54, f55, f20, f21, f22, hic, hN20, beq_self_eq_true, hn, ha, hd, hbz]
                    refine callI_of ((call_in I1.win (by omega) n hn6 s.op).mono ?_)
                    rintro _ N2 ⟨rfl, hW2⟩
                    rw [ec, if_neg (by simp)] at hW2
                    rw [ec]
                    simp -implicitDefEqProofs (maxSteps := 1000000) (disch := omega) only [↓xsP, ↓vc_seq, xsQ, xsT, xsR, xsD, ↓reduceIte, reduceCtorEq, eq_self, ne_eq, imp_self, forall_const, Nat.reduceEqDiff, Nat.reduceAdd, Nat.reduceSub, Nat.reduceMul, Nat.reduceLT, Nat.reduceLeDiff, Nat.reduceBEq, Nat.reduceDiv, Nat.reduceMod, Int.reduceToNat, Int.reduceNeg, Int.reduceAdd, Int.reduceSub, Int.reduceMul, Int.reduceEq, Int.reduceNe, Int.reduceLT, Int.reduceLE, Int.reduceGT, Int.reduceGE, f5, f6, f9, f10, f11, f12, f13, f14, f15, f16, f17, f18, f53, f54, f55, f20, f21, f22, hic, hN20, beq_self_eq_true]
                    exact ⟨x, xh, xw, o, W, L, h, B1, good, rfl, rfl, rfl, rfl, rfl, PlaysI.up { I1 with win := hW2 }⟩
                  | true =>
                    have ec : canCall W n s.op = true := by rw [canCall, hbz, hmo]; rfl
                    simp -implicitDefEqProofs (maxSteps := 1000000) (disch := omega) only [↓xsP, ↓vc_seq, xsQ, xsT, xsR, xsD, ↓reduceIte, reduceCtorEq, eq_self, ne_eq, imp_self, forall_const, Nat.reduceEqDiff, Nat.reduceAdd, Nat.reduceSub, Nat.reduceMul, Nat.reduceLT, Nat.reduceLeDiff, Nat.reduceBEq, Nat.reduceDiv, Nat.reduceMod, Int.reduceToNat, Int.reduceNeg, Int.reduceAdd, Int.reduceSub, Int.reduceMul, Int.reduceEq, Int.reduceNe, Int.reduceLT, Int.reduceLE, Int.reduceGT, Int.reduceGE, f5, f6, f9, f10, f11, f12, f13, f14, f15, f16, f17, f18, f53, f54, f55, f20, f21, f22, hic, hN20, beq_self_eq_true, hn, ha, hd, hbz]
                    refine callI_of ((call_in I1.win (by omega) n hn6 s.op).mono ?_)
                    rintro _ N2 ⟨rfl, hW2⟩
                    rw [ec, if_pos rfl] at hW2
                    rw [ec]
                    have e20 := hW2.le _ _ h20
                    have ea := hW2.le _ _ I1.loc.ma
                    have eb := hW2.le _ _ I1.loc.mb
                    have ecc := hW2.le _ _ I1.loc.mc
                    have ee := hW2.le _ _ I1.loc.me
                    rw [bB] at ea eb
                    rw [bO] at ecc
                    rw [bN] at ee
                    simp -implicitDefEqProofs (maxSteps := 1000000) (disch := omega) only [↓xsP, ↓vc_seq, xsQ, xsT, xsR, xsD, ↓reduceIte, reduceCtorEq, eq_self, ne_eq, imp_self, forall_const, Nat.reduceEqDiff, Nat.reduceAdd, Nat.reduceSub, Nat.reduceMul, Nat.reduceLT, Nat.reduceLeDiff, Nat.reduceBEq, Nat.reduceDiv, Nat.reduceMod, Int.reduceToNat, Int.reduceNeg, Int.reduceAdd, Int.reduceSub, Int.reduceMul, Int.reduceEq, Int.reduceNe, Int.reduceLT, Int.reduceLE, Int.reduceGT, Int.reduceGE, f5, f6, f9, f10, f11, f12, f13, f14, f15, f16, f17, f18, f53, f54, f55, f20, f21, f22, hic, hN20, beq_self_eq_true]
                    refine xwrite (fun n0 => [ (8, p.a), (10, p.b), (12, p.c), (14, p.e)]) [8, 10, 12, 14] [] [[], [8], [8, 10], [8, 10, 12], [8, 10], [8, 10], [8, 10, 12], [], [], [], [], [], [], [], []] (by kernel_rfl) (by kernel_rfl) (by kernel_rfl) (by kernel_rfl) (fun n0 hn0 => ⟨rfl, ?_, ?_⟩)
                    · exact TOk_cons (.inl (lt_of_bnd hn0 ea)) (TOk_cons (.inl (lt_of_bnd hn0 eb)) (TOk_cons (.inl (lt_of_bnd hn0 ecc)) (TOk_cons (.inl (lt_of_bnd hn0 ee)) (TOk_nil _ _))))
                    · have la : (arr brow L.on).length = 6 := (arr_len (row := brow) (n := 1) (fun _ => rfl) L.on).trans (by rw [I1.loc.la])
                      have lb : (arr brow L.done).length = 6 := (arr_len (row := brow) (n := 1) (fun _ => rfl) L.done).trans (by rw [I1.loc.lb])
                      have lcc : (arr Opn.row L.op).length = 24 := (arr_len (row := Opn.row) (n := 4) (fun _ => rfl) L.op).trans (by rw [I1.loc.lc])
                      have le : (arr irow L.num).length = 6 := (arr_len (row := irow) (n := 1) (fun _ => rfl) L.num).trans (by rw [I1.loc.le'])
                      have nab := I1.loc.ab
                      have nac := ne_ty ea ecc (by decide)
                      have nae := ne_ty ea ee (by decide)
                      have nbc := ne_ty eb ecc (by decide)
                      have nbe := ne_ty eb ee (by decide)
                      have nce := ne_ty ecc ee (by decide)
                      have n20a := ne_ty e20 ea (by decide)
                      have n20b := ne_ty e20 eb (by decide)
                      have n20c := ne_ty e20 ecc (by decide)
                      have n20e := ne_ty e20 ee (by decide)
                      have k20 := lt_of_bnd hn0 e20
                      have ka := lt_of_bnd hn0 ea
                      have kb := lt_of_bnd hn0 eb
                      have kc := lt_of_bnd hn0 ecc
                      have ke := lt_of_bnd hn0 ee
                      have z1 : (n + 1 ≤ 6) = True := eq_true (by omega)
                      have z4 : (n * 4 + 4 ≤ 24) = True := eq_true (by omega)
                      have i6 : ∀ X : AV, (if 0 ≤ (n : Int) ∧ (n : Int) < ((6 : Nat) : Int) then some X else none) = some X := fun X => if_pos ⟨by omega, by omega⟩
                      simp -implicitDefEqProofs (maxSteps := 1000000) (disch := omega) only [↓xsP, ↓vc_seq, xsQ, xsT, xsR, xsD, ↓reduceIte, reduceCtorEq, eq_self, ne_eq, imp_self, forall_const, Nat.reduceEqDiff, Nat.reduceAdd, Nat.reduceSub, Nat.reduceMul, Nat.reduceLT, Nat.reduceLeDiff, Nat.reduceBEq, Nat.reduceDiv, Nat.reduceMod, Int.reduceToNat, Int.reduceNeg, Int.reduceAdd, Int.reduceSub, Int.reduceMul, Int.reduceEq, Int.reduceNe, Int.reduceLT, Int.reduceLE, Int.reduceGT, Int.reduceGE, f5, f6, f9, f10, f11, f12, f13, f14, f15, f16, f17, f18, f53, f54, f55, f20, f21, f22, hn, e20, ea, eb, ecc, ee, la, lb, lcc, le, z1, z4, i6]
                      have s1 := arr_set (row := brow) (n := 1) (fun _ => rfl) true L.on n (by rw [I1.loc.la]; exact hn6)
                      have s2 := arr_set (row := brow) (n := 1) (fun _ => rfl) false L.done n (by rw [I1.loc.lb]; exact hn6)
                      have s3 := arr_set (row := Opn.row) (n := 4) (fun _ => rfl) s.op L.op n (by rw [I1.loc.lc]; exact hn6)
                      have s4 := arr_set (row := irow) (n := 1) (fun _ => rfl) (W.calls : Int) L.num n (by rw [I1.loc.le']; exact hn6)
                      rw [Nat.mul_one] at s1 s2 s4
                      rw [row_opn] at s3
                      have la' : (L.on.set n true).length = 6 := by rw [List.length_set]; exact I1.loc.la
                      have lb' : (L.done.set n false).length = 6 := by rw [List.length_set]; exact I1.loc.lb
                      have lc' : (L.op.set n s.op).length = 6 := by rw [List.length_set]; exact I1.loc.lc
                      have le' : (L.num.set n (W.calls : Int)).length = 6 := by rw [List.length_set]; exact I1.loc.le'
                      have J1 := I1.loc.on la'
                      have J2 := J1.done lb'
                      have J3 := J2.op lc'
                      have J4 := J3.num le'
                      have hW3 := (((hW2.put I1.loc.ma (bB (L.on.set n true))).put J1.mb (bB (L.done.set n false))).put J2.mc (bO (L.op.set n s.op))).put J3.me (bN (L.num.set n (W.calls : Int)))
                      obtain ⟨N3, eN⟩ : ∃ N3, N3 = (((N2.set p.a (bB (L.on.set n true))).set p.b (bB (L.done.set n false))).set p.c (bO (L.op.set n s.op))).set p.e (bN (L.num.set n (W.calls : Int))) := ⟨_, rfl⟩
                      rw [← eN] at hW3
                      generalize Mem.set (Mem.set (Mem.set (Mem.set B1 _ _) _ _) _ _) _ _ = B3 at hW3 J4
                      refine newI_intro fun idn hidn => ?_
                      simp -implicitDefEqProofs (maxSteps := 1000000) (disch := omega) only [↓xsP, ↓vc_seq, xsQ, xsT, xsR, xsD, ↓reduceIte, reduceCtorEq, eq_self, ne_eq, imp_self, forall_const, Nat.reduceEqDiff, Nat.reduceAdd, Nat.reduceSub, Nat.reduceMul, Nat.reduceLT, Nat.reduceLeDiff, Nat.reduceBEq, Nat.reduceDiv, Nat.reduceMod, Int.reduceToNat, Int.reduceNeg, Int.reduceAdd, Int.reduceSub, Int.reduceMul, Int.reduceEq, Int.reduceNe, Int.reduceLT, Int.reduceLE, Int.reduceGT, Int.reduceGE, f5, f6, f9, f10, f11, f12, f13, f14, f15, f16, f17, f18, f53, f54, f55, f20, f21, f22, hn]
                      rw [show List.take n (arr brow L.on) ++ [Lf.bool true] ++ List.drop (n + 1) (arr brow L.on) = _ from s1, show List.take n (arr brow L.done) ++ [Lf.bool false] ++ List.drop (n + 1) (arr brow L.done) = _ from s2, s3, show List.take n (arr irow L.num) ++ [Lf.int .i64 (W.calls : Int)] ++ List.drop (n + 1) (arr irow L.num) = _ from s4, bB_fold, bB_fold, bO_fold, bN_fold, ← eN] at hidn ⊢
                      refine app_evt hW3 J4 hidn ⟨n, false, s.op, ans0⟩ _ rfl (by omega) fun idA B' N' hW4 hJ => ?_
                      simp -implicitDefEqProofs (maxSteps := 1000000) (disch := omega) only [↓xsP, ↓vc_seq, xsQ, xsT, xsR, xsD, ↓reduceIte, reduceCtorEq, eq_self, ne_eq, imp_self, forall_const, Nat.reduceEqDiff, Nat.reduceAdd, Nat.reduceSub, Nat.reduceMul, Nat.reduceLT, Nat.reduceLeDiff, Nat.reduceBEq, Nat.reduceDiv, Nat.reduceMod, Int.reduceToNat, Int.reduceNeg, Int.reduceAdd, Int.reduceSub, Int.reduceMul, Int.reduceEq, Int.reduceNe, Int.reduceLT, Int.reduceLE, Int.reduceGT, Int.reduceGE, f5, f6, f9, f10, f11, f12, f13, f14, f15, f16, f17, f18, f53, f54, f55, f20, f21, f22, hn]
                      exact ⟨x, _, xw, o, callW W n s.op, _, h ++ [⟨n, false, s.op, ans0⟩], B', good, rfl, rfl, rfl, by simp [callW], rfl, by rw [hic], I1.call hn6 ec hW4 hJ⟩
            · simp -implicitDefEqProofs (maxSteps := 1000000) (disch := omega) only [↓xsP, ↓vc_seq, xsQ, xsT, xsR, xsD, ↓reduceIte, reduceCtorEq, eq_self, ne_eq, imp_self, forall_const, Nat.reduceEqDiff, Nat.reduceAdd, Nat.reduceSub, Nat.reduceMul, Nat.reduceLT, Nat.reduceLeDiff, Nat.reduceBEq, Nat.reduceDiv, Nat.reduceMod, Int.reduceToNat, Int.reduceNeg, Int.reduceAdd, Int.reduceSub, Int.reduceMul, Int.reduceEq, Int.reduceNe, Int.reduceLT, Int.reduceLE, Int.reduceGT, Int.reduceGE, f5, f6, f9, f10, f11, f12, f13, f14, f15, f16, f17, f18, f53, f54, f55, f20, f21, f22, hN20]
              refine condI_prop (fun hdo1 => ?_) (fun hdo1 => ?_)
              · cases hic : inn with
                | false =>
                  simp -implicitDefEqProofs (maxSteps := 1000000) (disch := omega) only [↓xsP, ↓vc_seq, xsQ, xsT, xsR, xsD, ↓reduceIte, reduceCtorEq, eq_self, ne_eq, imp_self, forall_const, Nat.reduceEqDiff, Nat.reduceAdd, Nat.reduceSub, Nat.reduceMul, Nat.reduceLT, Nat.reduceLeDiff, Nat.reduceBEq, Nat.reduceDiv, Nat.reduceMod, Int.reduceToNat, Int.reduceNeg, Int.reduceAdd, Int.reduceSub, Int.reduceMul, Int.reduceEq, Int.reduceNe, Int.reduceLT, Int.reduceLE, Int.reduceGT, Int.reduceGE, f5, f6, f9, f10, f11, f12, f13, f14, f15, f16, f17, f18, f53, f54, f55, f20, f21, f22, hic, hN20, beq_self_eq_true]
                  refine call_of (took_out id s.who _ (by rw [hinn] at hic; have := of_decide_eq_false hic; omega)) ?_
                  simp -implicitDefEqProofs (maxSteps := 1000000) (disch := omega) only [↓xsP, ↓vc_seq, xsQ, xsT, xsR, xsD, ↓reduceIte, reduceCtorEq, eq_self, ne_eq, imp_self, forall_const, Nat.reduceEqDiff, Nat.reduceAdd, Nat.reduceSub, Nat.reduceMul, Nat.reduceLT, Nat.reduceLeDiff, Nat.reduceBEq, Nat.reduceDiv, Nat.reduceMod, Int.reduceToNat, Int.reduceNeg, Int.reduceAdd, Int.reduceSub, Int.reduceMul, Int.reduceEq, Int.reduceNe, Int.reduceLT, Int.reduceLE, Int.reduceGT, Int.reduceGE, f5, f6, f9, f10, f11, f12, f13, f14, f15, f16, f17, f18, f53, f54, f55, f20, f21, f22, hic, hN20, beq_self_eq_true]
                  exact ⟨x, xh, xw, o, W, L, h, B1, good, rfl, rfl, rfl, rfl, rfl, I1.up⟩
                | true =>
                  obtain ⟨n, hn, hn6⟩ : ∃ n : Nat, s.who = (n : Int) ∧ n < 6 := by rw [hinn] at hic; have := of_decide_eq_true hic; exact ⟨s.who.toNat, by omega, by omega⟩
                  have ha := I1.win.le _ _ I1.loc.ma
                  have hb := I1.win.le _ _ I1.loc.mb
                  rw [bB] at ha hb
                  have i6 : ∀ X : AV, (if 0 ≤ (n : Int) ∧ (n : Int) < ((6 : Nat) : Int) then some X else none) = some X := fun X => if_pos ⟨by omega, by omega⟩
                  have hd := arr_bool (show n < L.on.length by rw [I1.loc.la]; exact hn6)
                  have hd2 := arr_bool (show n < L.done.length by rw [I1.loc.lb]; exact hn6)
                  rw [I1.rel.on n hn6] at hd
                  cases hbz : (W.ws.getD n default).busy with
                  | false =>
                    have ec : canTook W n = false := by rw [canTook, hbz]; rfl
                    simp -implicitDefEqProofs (maxSteps := 1000000) (disch := omega) only [↓xsP, ↓vc_seq, xsQ, xsT, xsR, xsD, ↓reduceIte, reduceCtorEq, eq_self, ne_eq, imp_self, forall_const, Nat.reduceEqDiff, Nat.reduceAdd, Nat.reduceSub, Nat.reduceMul, Nat.reduceLT, Nat.reduceLeDiff, Nat.reduceBEq, Nat.reduceDiv, Nat.reduceMod, Int.reduceToNat, Int.reduceNeg, Int.reduceAdd, Int.reduceSub, Int.reduceMul, Int.reduceEq, Int.reduceNe, Int.reduceLT, Int.reduceLE, Int.reduceGT, Int.reduceGE, f5, f6, f9, f10, f11, f12, f13, f14, f15, f16, f17, f18, f53, f54, f55, f20, f21, f22, hic, hN20, beq_self_eq_true, hn, ha, hd, hbz, i6]
                    refine callI_of ((took_in I1.win n hn6 (by omega) (by omega)).mono ?_)
                    rintro _ N2 ⟨rfl, o2, hW2⟩
                    rw [ec, if_neg (by simp)] at hW2
                    rw [ec]
                    simp -implicitDefEqProofs (maxSteps := 1000000) (disch := omega) only [↓xsP, ↓vc_seq, xsQ, xsT, xsR, xsD, ↓reduceIte, reduceCtorEq, eq_self, ne_eq, imp_self, forall_const, Nat.reduceEqDiff, Nat.reduceAdd, Nat.reduceSub, Nat.reduceMul, Nat.reduceLT, Nat.reduceLeDiff, Nat.reduceBEq, Nat.reduceDiv, Nat.reduceMod, Int.reduceToNat, Int.reduceNeg, Int.reduceAdd, Int.reduceSub, Int.reduceMul, Int.reduceEq, Int.reduceNe, Int.reduceLT, Int.reduceLE, Int.reduceGT, Int.reduceGE, f5, f6, f9, f10, f11, f12, f13, f14, f15, f16, f17, f18, f53, f54, f55, f20, f21, f22, hic, hN20, beq_self_eq_true]
                    exact ⟨x, xh, xw, o2, W, L, h, B1, good, rfl, rfl, rfl, rfl, rfl, PlaysI.up { I1 with win := hW2 }⟩
                  | true =>
                  rw [I1.rel.dn n hn6 hbz] at hd2
                  cases htk : (W.ws.getD n default).took with
                  | true =>
                    have ec : canTook W n = false := by rw [canTook, hbz, htk]; rfl
                    simp -implicitDefEqProofs (maxSteps := 1000000) (disch := omega) only [↓xsP, ↓vc_seq, xsQ, xsT, xsR, xsD, ↓reduceIte, reduceCtorEq, eq_self, ne_eq, imp_self, forall_const, Nat.reduceEqDiff, Nat.reduceAdd, Nat.reduceSub, Nat.reduceMul, Nat.reduceLT, Nat.reduceLeDiff, Nat.reduceBEq, Nat.reduceDiv, Nat.reduceMod, Int.reduceToNat, Int.reduceNeg, Int.reduceAdd, Int.reduceSub, Int.reduceMul, Int.reduceEq, Int.reduceNe, Int.reduceLT, Int.reduceLE, Int.reduceGT, Int.reduceGE, f5, f6, f9, f10, f11, f12, f13, f14, f15, f16, f17, f18, f53, f54, f55, f20, f21, f22, hic, hN20, beq_self_eq_true, hn, ha, hb, hd, hd2, hbz, htk, i6]
                    refine callI_of ((took_in I1.win n hn6 (by omega) (by omega)).mono ?_)
                    rintro _ N2 ⟨rfl, o2, hW2⟩
                    rw [ec, if_neg (by simp)] at hW2
                    rw [ec]
                    simp -implicitDefEqProofs (maxSteps := 1000000) (disch := omega) only [↓xsP, ↓vc_seq, xsQ, xsT, xsR, xsD, ↓reduceIte, reduceCtorEq, eq_self, ne_eq, imp_self, forall_const, Nat.reduceEqDiff, Nat.reduceAdd, Nat.reduceSub, Nat.reduceMul, Nat.reduceLT, Nat.reduceLeDiff, Nat.reduceBEq, Nat.reduceDiv, Nat.reduceMod, Int.reduceToNat, Int.reduceNeg, Int.reduceAdd, Int.reduceSub, Int.reduceMul, Int.reduceEq, Int.reduceNe, Int.reduceLT, Int.reduceLE, Int.reduceGT, Int.reduceGE, f5, f6, f9, f10, f11, f12, f13, f14, f15, f16, f17, f18, f53, f54, f55, f20, f21, f22, hic, hN20, beq_self_eq_true]
                    exact ⟨x, xh, xw, o2, W, L, h, B1, good, rfl, rfl, rfl, rfl, rfl, PlaysI.up { I1 with win := hW2 }⟩
                  | false =>
                    have ec : canTook W n = true := by rw [canTook, hbz, htk]; rfl
                    simp -implicitDefEqProofs (maxSteps := 1000000) (disch := omega) only [↓xsP, ↓vc_seq, xsQ, xsT, xsR, xsD, ↓reduceIte, reduceCtorEq, eq_self, ne_eq, imp_self, forall_const, Nat.reduceEqDiff, Nat.reduceAdd, Nat.reduceSub, Nat.reduceMul, Nat.reduceLT, Nat.reduceLeDiff, Nat.reduceBEq, Nat.reduceDiv, Nat.reduceMod, Int.reduceToNat, Int.reduceNeg, Int.reduceAdd, Int.reduceSub, Int.reduceMul, Int.reduceEq, Int.reduceNe, Int.reduceLT, Int.reduceLE, Int.reduceGT, Int.reduceGE, f5, f6, f9, f10, f11, f12, f13, f14, f15, f16, f17, f18, f53, f54, f55, f20, f21, f22, hic, hN20, beq_self_eq_true, hn, ha, hb, hd, hd2, hbz, htk, i6]
                    refine callI_of ((took_in I1.win n hn6 (by omega) (by omega)).mono ?_)
                    rintro _ N2 ⟨rfl, o2, hW2⟩
                    rw [ec, if_pos rfl] at hW2
                    rw [ec]
                    have eb := hW2.le _ _ I1.loc.mb
                    have ecc := hW2.le _ _ I1.loc.mc
                    have ed := hW2.le _ _ I1.loc.md
                    have ee := hW2.le _ _ I1.loc.me
                    rw [bB] at eb
                    rw [bO] at ecc
                    rw [bT] at ed
                    rw [bN] at ee
                    have lb : (arr brow L.done).length = 6 := (arr_len (row := brow) (n := 1) (fun _ => rfl) L.done).trans (by rw [I1.loc.lb])
                    have ld : (arr Ans.row L.told).length = 36 := (arr_len (row := Ans.row) (n := 6) (fun _ => rfl) L.told).trans (by rw [I1.loc.ld])
                    have nbc := ne_ty eb ecc (by decide)
                    have nbd := ne_ty eb ed (by decide)
                    have nbe := ne_ty eb ee (by decide)
                    have ncd := ne_ty ecc ed (by decide)
                    have nde := ne_ty ed ee (by decide)
                    have z1 : (n + 1 ≤ 6) = True := eq_true (by omega)
                    have z6 : (n * 6 + 6 ≤ 36) = True := eq_true (by omega)
                    have ho := arr_opn (show n < L.op.length by rw [I1.loc.lc]; exact hn6)
                    rw [I1.rel.op n hn6 hbz] at ho
                    have hnm := arr_int (show n < L.num.length by rw [I1.loc.le']; exact hn6)
                    rw [I1.rel.nm n hn6 hbz] at hnm
                    simp -implicitDefEqProofs (maxSteps := 1000000) (disch := omega) only [↓xsP, ↓vc_seq, xsQ, xsT, xsR, xsD, ↓reduceIte, reduceCtorEq, eq_self, ne_eq, imp_self, forall_const, Nat.reduceEqDiff, Nat.reduceAdd, Nat.reduceSub, Nat.reduceMul, Nat.reduceLT, Nat.reduceLeDiff, Nat.reduceBEq, Nat.reduceDiv, Nat.reduceMod, Int.reduceToNat, Int.reduceNeg, Int.reduceAdd, Int.reduceSub, Int.reduceMul, Int.reduceEq, Int.reduceNe, Int.reduceLT, Int.reduceLE, Int.reduceGT, Int.reduceGE, f5, f6, f9, f10, f11, f12, f13, f14, f15, f16, f17, f18, f53, f54, f55, f20, f21, f22, hic, beq_self_eq_true, hn, eb, ecc, ed, ee, lb, ld, z1, z6, ho, i6]
                    refine call_of (doR_is I1.x (by omega) _ _) ?_
                    simp -implicitDefEqProofs (maxSteps := 1000000) (disch := omega) only [↓xsP, ↓vc_seq, xsQ, xsT, xsR, xsD, ↓reduceIte, reduceCtorEq, eq_self, ne_eq, imp_self, forall_const, Nat.reduceEqDiff, Nat.reduceAdd, Nat.reduceSub, Nat.reduceMul, Nat.reduceLT, Nat.reduceLeDiff, Nat.reduceBEq, Nat.reduceDiv, Nat.reduceMod, Int.reduceToNat, Int.reduceNeg, Int.reduceAdd, Int.reduceSub, Int.reduceMul, Int.reduceEq, Int.reduceNe, Int.reduceLT, Int.reduceLE, Int.reduceGT, Int.reduceGE, f5, f6, f9, f10, f11, f12, f13, f14, f15, f16, f17, f18, f53, f54, f55, f20, f21, f22, hic, beq_self_eq_true, hn, eb, ecc, ed, ee, lb, ld, z1, z6, hnm, i6]
                    refine newI_intro fun idn hidn => ?_
                    simp -implicitDefEqProofs (maxSteps := 1000000) (disch := omega) only [↓xsP, ↓vc_seq, xsQ, xsT, xsR, xsD, ↓reduceIte, reduceCtorEq, eq_self, ne_eq, imp_self, forall_const, Nat.reduceEqDiff, Nat.reduceAdd, Nat.reduceSub, Nat.reduceMul, Nat.reduceLT, Nat.reduceLeDiff, Nat.reduceBEq, Nat.reduceDiv, Nat.reduceMod, Int.reduceToNat, Int.reduceNeg, Int.reduceAdd, Int.reduceSub, Int.reduceMul, Int.reduceEq, Int.reduceNe, Int.reduceLT, Int.reduceLE, Int.reduceGT, Int.reduceGE, f5, f6, f9, f10, f11, f12, f13, f14, f15, f16, f17, f18, f53, f54, f55, f20, f21, f22, hic, hn]
                    have s1 := arr_set (row := brow) (n := 1) (fun _ => rfl) true L.done n (by rw [I1.loc.lb]; exact hn6)
                    have s2 := arr_set (row := Ans.row) (n := 6) (fun _ => rfl) (doA W.s (W.ws.getD n default).op) L.told n (by rw [I1.loc.ld]; exact hn6)
                    rw [Nat.mul_one] at s1
                    rw [row_ans] at s2
                    have lb' : (L.done.set n true).length = 6 := by rw [List.length_set]; exact I1.loc.lb
                    have ld' : (L.told.set n (doA W.s (W.ws.getD n default).op)).length = 6 := by rw [List.length_set]; exact I1.loc.ld
                    have J1 := I1.loc.done lb'
                    have J2 := J1.told ld'
                    have hW3 := (hW2.put I1.loc.mb (bB (L.done.set n true))).put J1.md (bT (L.told.set n (doA W.s (W.ws.getD n default).op)))
                    obtain ⟨N3, eN⟩ : ∃ N3, N3 = (N2.set p.b (bB (L.done.set n true))).set p.d (bT (L.told.set n (doA W.s (W.ws.getD n default).op))) := ⟨_, rfl⟩
                    rw [← eN] at hW3
                    generalize Mem.set (Mem.set B1 _ _) _ _ = B3 at hW3 J2
                    rw [show List.take n (arr brow L.done) ++ [Lf.bool true] ++ List.drop (n + 1) (arr brow L.done) = _ from s1, s2, bB_fold, bT_fold, ← eN] at hidn ⊢
                    refine app_want hW3 J2 hidn (W.ws.getD n default).call (by omega) fun idA B' N' hW4 hJ => ?_
                    simp -implicitDefEqProofs (maxSteps := 1000000) (disch := omega) only [↓xsP, ↓vc_seq, xsQ, xsT, xsR, xsD, ↓reduceIte, reduceCtorEq, eq_self, ne_eq, imp_self, forall_const, Nat.reduceEqDiff, Nat.reduceAdd, Nat.reduceSub, Nat.reduceMul, Nat.reduceLT, Nat.reduceLeDiff, Nat.reduceBEq, Nat.reduceDiv, Nat.reduceMod, Int.reduceToNat, Int.reduceNeg, Int.reduceAdd, Int.reduceSub, Int.reduceMul, Int.reduceEq, Int.reduceNe, Int.reduceLT, Int.reduceLE, Int.reduceGT, Int.reduceGE, f5, f6, f9, f10, f11, f12, f13, f14, f15, f16, f17, f18, f53, f54, f55, f20, f21, f22, hn]
                    exact ⟨_, xh, _, o2, tookW W n, _, h, B', good, rfl, rfl, rfl, by simp [tookW], rfl, by rw [hic], I1.took hn6 (by omega) ec (.inl rfl) hW4 hJ⟩
              · simp -implicitDefEqProofs (maxSteps := 1000000) (disch := omega) only [↓xsP, xsQ, xsT, xsR, xsD, ↓reduceIte, reduceCtorEq, eq_self, ne_eq, imp_self, forall_const, Nat.reduceEqDiff, Nat.reduceAdd, Nat.reduceSub, Nat.reduceMul, Nat.reduceLT, Nat.reduceLeDiff, Nat.reduceBEq, Nat.reduceDiv, Nat.reduceMod, Int.reduceToNat, Int.reduceNeg, Int.reduceAdd, Int.reduceSub, Int.reduceMul, Int.reduceEq, Int.reduceNe, Int.reduceLT, Int.reduceLE, Int.reduceGT, Int.reduceGE, f5, f6, f9, f10, f11, f12, f13, f14, f15, f16, f17, f18, f53, f54, f55, f20, f21, f22, hN20]
                refine vc_seq_of ?_
                simp -implicitDefEqProofs (maxSteps := 1000000) (disch := omega) only [↓xsP, xsQ, xsT, xsR, xsD, ↓reduceIte, reduceCtorEq, eq_self, ne_eq, imp_self, forall_const, Nat.reduceEqDiff, Nat.reduceAdd, Nat.reduceSub, Nat.reduceMul, Nat.reduceLT, Nat.reduceLeDiff, Nat.reduceBEq, Nat.reduceDiv, Nat.reduceMod, Int.reduceToNat, Int.reduceNeg, Int.reduceAdd, Int.reduceSub, Int.reduceMul, Int.reduceEq, Int.reduceNe, Int.reduceLT, Int.reduceLE, Int.reduceGT, Int.reduceGE, f5, f6, f9, f10, f11, f12, f13, f14, f15, f16, f17, f18, f53, f54, f55, f20, f21, f22, hN20]
                refine newI_intro fun id25 hid25 => ?_
                obtain ⟨hW4, hB4⟩ := I1.win.grow hid25 (.cells 29 [s.ans.row] 0)
                have J4 := I1.loc.grow (hB4 _ (Nat.le_refl _)) (.cells 29 [s.ans.row] 0)
                have h25 := Mem.set_eq B1 id25 (.cells 29 [s.ans.row] 0)
                have k25 := lt_of_bnd hid25 hN20
                have m25 : M id25 = none := by
                  cases hm : M id25 with
                  | none => rfl
                  | some bk => have := I1.loc.le _ _ hm; rw [hB4 _ (Nat.le_refl _)] at this; cases this
                have h20b : (B1.set id25 (.cells 29 [s.ans.row] 0)) id20 = some (.cells 31 [s.row] 0) := by rw [Mem.set_ne _ _ _ _ (by omega)]; exact h20
                simp -implicitDefEqProofs (maxSteps := 1000000) (disch := omega) only [↓xsP, xsQ, xsT, xsR, xsD, ↓reduceIte, reduceCtorEq, eq_self, ne_eq, imp_self, forall_const, Nat.reduceEqDiff, Nat.reduceAdd, Nat.reduceSub, Nat.reduceMul, Nat.reduceLT, Nat.reduceLeDiff, Nat.reduceBEq, Nat.reduceDiv, Nat.reduceMod, Int.reduceToNat, Int.reduceNeg, Int.reduceAdd, Int.reduceSub, Int.reduceMul, Int.reduceEq, Int.reduceNe, Int.reduceLT, Int.reduceLE, Int.reduceGT, Int.reduceGE, f5, f6, f9, f10, f11, f12, f13, f14, f15, f16, f17, f18, f53, f54, f55, f20, f21, f22, hN20]
                rw [row_ans] at hW4 J4 h25 h20b
                rw [row_stp] at h20b
                have I4 := I1.mem J4 hW4
                generalize Mem.set M3 id25 _ = N4 at hW4 I4 ⊢
                generalize Mem.set B1 id25 _ = B4 at hW4 I4 h25 h20b
                clear hid25 hB4 k25 J4 h20 hN20 I1 hW4
                refine vc_cut (fun fr' M5 => ∃ (a : Ans) (B5 : Mem), fr' 5 = .l (.ptr id 0 0) ∧ fr' 6 = .l x ∧ fr' 9 = .l xf ∧ fr' 10 = .l (.ptr p.a 0 0) ∧ fr' 11 = .l (.ptr p.b 0 0) ∧ fr' 12 = .l (.ptr p.c 0 0) ∧ fr' 13 = .l (.ptr p.d 0 0) ∧ fr' 14 = .l (.ptr p.e 0 0) ∧ fr' 15 = .l xh ∧ fr' 16 = .l xw ∧ fr' 17 = .l (.int .i64 W.calls) ∧ fr' 18 = .l (.bool good) ∧ fr' 53 = .l (.sl (l.map Stp.row)) ∧ fr' 54 = .l (.int .i64 l.length) ∧ fr' 55 = .l (.int .i64 i) ∧ fr' 20 = .l (.ptr id20 0 0) ∧ fr' 21 = .l (.int .i64 s.who) ∧ fr' 22 = .l (.bool inn) ∧ fr' 25 = .l (.ptr id25 0 0) ∧ a.pairs.length ≤ 1000 ∧ B5 id20 = some (.cells 31 [s.row] 0) ∧ B5 id25 = some (.cells 29 [ansR a (.sl (a.pairs.map Pr.row))] 0) ∧ PlaysI M M5 id mid o b0 p xf xh xw B5 i x W L h good) ?_ ?_
                · have hN20 := I4.win.le _ _ h20b
                  have hN25 := I4.win.le _ _ h25
                  cases hic : inn with
                  | false =>
                    simp -implicitDefEqProofs (maxSteps := 1000000) (disch := omega) only [↓xsP, ↓vc_seq, xsQ, xsT, xsR, xsD, ↓reduceIte, reduceCtorEq, eq_self, ne_eq, imp_self, forall_const, Nat.reduceEqDiff, Nat.reduceAdd, Nat.reduceSub, Nat.reduceMul, Nat.reduceLT, Nat.reduceLeDiff, Nat.reduceBEq, Nat.reduceDiv, Nat.reduceMod, Int.reduceToNat, Int.reduceNeg, Int.reduceAdd, Int.reduceSub, Int.reduceMul, Int.reduceEq, Int.reduceNe, Int.reduceLT, Int.reduceLE, Int.reduceGT, Int.reduceGE, f5, f6, f9, f10, f11, f12, f13, f14, f15, f16, f17, f18, f53, f54, f55, f20, f21, f22, hic, hN20, hN25]
                    exact ⟨s.ans, B4, by omega, h20b, h25, I4⟩
                  | true =>
                    obtain ⟨n, hn, hn6⟩ : ∃ n : Nat, s.who = (n : Int) ∧ n < 6 := by rw [hinn] at hic; have := of_decide_eq_true hic; exact ⟨s.who.toNat, by omega, by omega⟩
                    simp -implicitDefEqProofs (maxSteps := 1000000) (disch := omega) only [↓xsP, ↓vc_seq, xsQ, xsT, xsR, xsD, ↓reduceIte, reduceCtorEq, eq_self, ne_eq, imp_self, forall_const, Nat.reduceEqDiff, Nat.reduceAdd, Nat.reduceSub, Nat.reduceMul, Nat.reduceLT, Nat.reduceLeDiff, Nat.reduceBEq, Nat.reduceDiv, Nat.reduceMod, Int.reduceToNat, Int.reduceNeg, Int.reduceAdd, Int.reduceSub, Int.reduceMul, Int.reduceEq, Int.reduceNe, Int.reduceLT, Int.reduceLE, Int.reduceGT, Int.reduceGE, f5, f6, f9, f10, f11, f12, f13, f14, f15, f16, f17, f18, f53, f54, f55, f20, f21, f22, hic, hN20, hN25]
                    refine condI_prop (fun h2 => ?_) (fun h2 => ?_)
                    · have hd := I4.win.le _ _ I4.loc.md
                      rw [bT] at hd
                      have ht := arr_ans (show n < L.told.length by rw [I4.loc.ld]; exact hn6)
                      have i6 : ∀ X : AV, (if 0 ≤ (n : Int) ∧ (n : Int) < ((6 : Nat) : Int) then some X else none) = some X := fun X => if_pos ⟨by omega, by omega⟩
                      have ld : (arr Ans.row L.told).length = 36 := (arr_len (row := Ans.row) (n := 6) (fun _ => rfl) L.told).trans (by rw [I4.loc.ld])
                      simp -implicitDefEqProofs (maxSteps := 1000000) (disch := omega) only [↓xsP, ↓vc_seq, xsQ, xsT, xsR, xsD, ↓reduceIte, reduceCtorEq, eq_self, ne_eq, imp_self, forall_const, Nat.reduceEqDiff, Nat.reduceAdd, Nat.reduceSub, Nat.reduceMul, Nat.reduceLT, Nat.reduceLeDiff, Nat.reduceBEq, Nat.reduceDiv, Nat.reduceMod, Int.reduceToNat, Int.reduceNeg, Int.reduceAdd, Int.reduceSub, Int.reduceMul, Int.reduceEq, Int.reduceNe, Int.reduceLT, Int.reduceLE, Int.reduceGT, Int.reduceGE, f5, f6, f9, f10, f11, f12, f13, f14, f15, f16, f17, f18, f53, f54, f55, f20, f21, f22, hic, hN20, hN25, hn, hd, ht, i6]
                      exact ⟨L.told.getD n default, B4.set id25 _, I4.rel.bd n hn6, set_keep h20b (by rw [h25]; simp), Mem.set_eq _ _ _, I4.mem (I4.loc.ansBlk h25 m25 _) (I4.win.put h25 _)⟩
                    · simp -implicitDefEqProofs (maxSteps := 1000000) (disch := omega) only [↓xsP, ↓vc_seq, xsQ, xsT, xsR, xsD, ↓reduceIte, reduceCtorEq, eq_self, ne_eq, imp_self, forall_const, Nat.reduceEqDiff, Nat.reduceAdd, Nat.reduceSub, Nat.reduceMul, Nat.reduceLT, Nat.reduceLeDiff, Nat.reduceBEq, Nat.reduceDiv, Nat.reduceMod, Int.reduceToNat, Int.reduceNeg, Int.reduceAdd, Int.reduceSub, Int.reduceMul, Int.reduceEq, Int.reduceNe, Int.reduceLT, Int.reduceLE, Int.reduceGT, Int.reduceGE, f5, f6, f9, f10, f11, f12, f13, f14, f15, f16, f17, f18, f53, f54, f55, f20, f21, f22, hic, hN20, hN25]
                      exact ⟨s.ans, B4, by omega, h20b, h25, I4⟩
                · clear f5 f6 f9 f10 f11 f12 f13 f14 f15 f16 f17 f18 f53 f54 f55 f20 f21 f22 I4 h25 h20b B4 N4 hpl hdo hdo1
                  rintro fr N4 ⟨a, B4, f5, f6, f9, f10, f11, f12, f13, f14, f15, f16, f17, f18, f53, f54, f55, f20, f21, f22, f25, hap, h20b, h25, I4⟩
                  rw [row_stp] at h20b
                  refine vc_cut (fun fr' M5 => ∃ (a : Ans) (lp : Lf) (B5 : Mem), fr' 5 = .l (.ptr id 0 0) ∧ fr' 6 = .l x ∧ fr' 9 = .l xf ∧ fr' 10 = .l (.ptr p.a 0 0) ∧ fr' 11 = .l (.ptr p.b 0 0) ∧ fr' 12 = .l (.ptr p.c 0 0) ∧ fr' 13 = .l (.ptr p.d 0 0) ∧ fr' 14 = .l (.ptr p.e 0 0) ∧ fr' 15 = .l xh ∧ fr' 16 = .l xw ∧ fr' 17 = .l (.int .i64 W.calls) ∧ fr' 18 = .l (.bool good) ∧ fr' 53 = .l (.sl (l.map Stp.row)) ∧ fr' 54 = .l (.int .i64 l.length) ∧ fr' 55 = .l (.int .i64 i) ∧ fr' 20 = .l (.ptr id20 0 0) ∧ fr' 21 = .l (.int .i64 s.who) ∧ fr' 22 = .l (.bool inn) ∧ fr' 25 = .l (.ptr id25 0 0) ∧ a.pairs.length ≤ 1000 ∧ wkL lp = .sl (a.pairs.map Pr.row) ∧ B5 id25 = some (.cells 29 [ansR a lp] 0) ∧ PlaysI M M5 id mid o b0 p xf xh xw B5 i x W L h good) ?_ ?_
                  · have hN20 := I4.win.le _ _ h20b
                    have hN25 := I4.win.le _ _ h25
                    rw [ansR] at hN25
                    simp -implicitDefEqProofs (maxSteps := 1000000) (disch := omega) only [↓xsP, ↓vc_seq, xsQ, xsT, xsR, xsD, ↓reduceIte, reduceCtorEq, eq_self, ne_eq, imp_self, forall_const, Nat.reduceEqDiff, Nat.reduceAdd, Nat.reduceSub, Nat.reduceMul, Nat.reduceLT, Nat.reduceLeDiff, Nat.reduceBEq, Nat.reduceDiv, Nat.reduceMod, Int.reduceToNat, Int.reduceNeg, Int.reduceAdd, Int.reduceSub, Int.reduceMul, Int.reduceEq, Int.reduceNe, Int.reduceLT, Int.reduceLE, Int.reduceGT, Int.reduceGE, f5, f6, f9, f10, f11, f12, f13, f14, f15, f16, f17, f18, f53, f54, f55, f20, f21, f22, f25, hN20, hN25]
                    refine condI_prop (fun h3 => ?_) (fun h3 => ?_)
                    · simp -implicitDefEqProofs (maxSteps := 1000000) (disch := omega) only [↓xsP, ↓vc_seq, xsQ, xsT, xsR, xsD, ↓reduceIte, reduceCtorEq, eq_self, ne_eq, imp_self, forall_const, Nat.reduceEqDiff, Nat.reduceAdd, Nat.reduceSub, Nat.reduceMul, Nat.reduceLT, Nat.reduceLeDiff, Nat.reduceBEq, Nat.reduceDiv, Nat.reduceMod, Int.reduceToNat, Int.reduceNeg, Int.reduceAdd, Int.reduceSub, Int.reduceMul, Int.reduceEq, Int.reduceNe, Int.reduceLT, Int.reduceLE, Int.reduceGT, Int.reduceGE, f5, f6, f9, f10, f11, f12, f13, f14, f15, f16, f17, f18, f53, f54, f55, f20, f21, f22, f25, hN20, hN25]
                      exact ⟨⟨2, false, ⟨0, 0⟩, 0, []⟩, .nils, B4.set id25 _, Nat.zero_le _, rfl, Mem.set_eq _ _ _, I4.mem (I4.loc.ansBlk h25 m25 _) (I4.win.put h25 _)⟩
                    · simp -implicitDefEqProofs (maxSteps := 1000000) (disch := omega) only [↓xsP, ↓vc_seq, xsQ, xsT, xsR, xsD, ↓reduceIte, reduceCtorEq, eq_self, ne_eq, imp_self, forall_const, Nat.reduceEqDiff, Nat.reduceAdd, Nat.reduceSub, Nat.reduceMul, Nat.reduceLT, Nat.reduceLeDiff, Nat.reduceBEq, Nat.reduceDiv, Nat.reduceMod, Int.reduceToNat, Int.reduceNeg, Int.reduceAdd, Int.reduceSub, Int.reduceMul, Int.reduceEq, Int.reduceNe, Int.reduceLT, Int.reduceLE, Int.reduceGT, Int.reduceGE, f5, f6, f9, f10, f11, f12, f13, f14, f15, f16, f17, f18, f53, f54, f55, f20, f21, f22, f25, hN20, hN25]
                      exact ⟨a, .sl (a.pairs.map Pr.row), B4, hap, rfl, h25, I4⟩
                  · clear f5 f6 f9 f10 f11 f12 f13 f14 f15 f16 f17 f18 f53 f54 f55 f20 f21 f22 f25 I4 h25 h20b hap N4 B4 a
                    rintro fr N4 ⟨a, lp, B4, f5, f6, f9, f10, f11, f12, f13, f14, f15, f16, f17, f18, f53, f54, f55, f20, f21, f22, f25, hap, hlp, h25, I4⟩
                    have hN25 := I4.win.le _ _ h25
                    rw [ansR] at hN25
                    obtain ⟨can, hcan⟩ : ∃ can, can = (inn && retB W s.who.toNat a) := ⟨_, rfl⟩
                    refine vc_cut (fun fr' M5 => M5 = N4 ∧ fr' 5 = .l (.ptr id 0 0) ∧ fr' 6 = .l x ∧ fr' 9 = .l xf ∧ fr' 10 = .l (.ptr p.a 0 0) ∧ fr' 11 = .l (.ptr p.b 0 0) ∧ fr' 12 = .l (.ptr p.c 0 0) ∧ fr' 13 = .l (.ptr p.d 0 0) ∧ fr' 14 = .l (.ptr p.e 0 0) ∧ fr' 15 = .l xh ∧ fr' 16 = .l xw ∧ fr' 17 = .l (.int .i64 W.calls) ∧ fr' 18 = .l (.bool good) ∧ fr' 53 = .l (.sl (l.map Stp.row)) ∧ fr' 54 = .l (.int .i64 l.length) ∧ fr' 55 = .l (.int .i64 i) ∧ fr' 20 = .l (.ptr id20 0 0) ∧ fr' 21 = .l (.int .i64 s.who) ∧ fr' 22 = .l (.bool inn) ∧ fr' 25 = .l (.ptr id25 0 0) ∧ fr' 26 = .l (.bool can)) ?_ ?_
                    · refine xquiet (by kernel_rfl) (by kernel_rfl) (by kernel_rfl) ?_
                      cases hic : inn with
                      | false =>
                        simp -implicitDefEqProofs (maxSteps := 1000000) (disch := omega) only [↓xsP, ↓vc_seq, xsQ, xsT, xsR, xsD, ↓reduceIte, reduceCtorEq, eq_self, ne_eq, imp_self, forall_const, Nat.reduceEqDiff, Nat.reduceAdd, Nat.reduceSub, Nat.reduceMul, Nat.reduceLT, Nat.reduceLeDiff, Nat.reduceBEq, Nat.reduceDiv, Nat.reduceMod, Int.reduceToNat, Int.reduceNeg, Int.reduceAdd, Int.reduceSub, Int.reduceMul, Int.reduceEq, Int.reduceNe, Int.reduceLT, Int.reduceLE, Int.reduceGT, Int.reduceGE, f5, f6, f9, f10, f11, f12, f13, f14, f15, f16, f17, f18, f53, f54, f55, f20, f21, f22, f25, hN25, hic]
                        rw [hcan, hic, Bool.false_and]
                      | true =>
                        obtain ⟨n, hn, hn6⟩ : ∃ n : Nat, s.who = (n : Int) ∧ n < 6 := by rw [hinn] at hic; have := of_decide_eq_true hic; exact ⟨s.who.toNat, by omega, by omega⟩
                        have ha := I4.win.le _ _ I4.loc.ma
                        have hb := I4.win.le _ _ I4.loc.mb
                        have hdd := I4.win.le _ _ I4.loc.md
                        rw [bB] at ha hb
                        rw [bT] at hdd
                        have i6 : ∀ X : AV, (if 0 ≤ (n : Int) ∧ (n : Int) < ((6 : Nat) : Int) then some X else none) = some X := fun X => if_pos ⟨by omega, by omega⟩
                        have hd := arr_bool (show n < L.on.length by rw [I4.loc.la]; exact hn6)
                        have hd2 := arr_bool (show n < L.done.length by rw [I4.loc.lb]; exact hn6)
                        have hd3 := arr_ans (show n < L.told.length by rw [I4.loc.ld]; exact hn6)
                        rw [I4.rel.on n hn6] at hd
                        rw [hic, hn, Int.toNat_natCast, Bool.true_and] at hcan
                        cases hbz : (W.ws.getD n default).busy with
                        | false =>
                          simp -implicitDefEqProofs (maxSteps := 1000000) (disch := omega) only [↓xsP, ↓vc_seq, xsQ, xsT, xsR, xsD, ↓reduceIte, reduceCtorEq, eq_self, ne_eq, imp_self, forall_const, Nat.reduceEqDiff, Nat.reduceAdd, Nat.reduceSub, Nat.reduceMul, Nat.reduceLT, Nat.reduceLeDiff, Nat.reduceBEq, Nat.reduceDiv, Nat.reduceMod, Int.reduceToNat, Int.reduceNeg, Int.reduceAdd, Int.reduceSub, Int.reduceMul, Int.reduceEq, Int.reduceNe, Int.reduceLT, Int.reduceLE, Int.reduceGT, Int.reduceGE, f5, f6, f9, f10, f11, f12, f13, f14, f15, f16, f17, f18, f53, f54, f55, f20, f21, f22, f25, hN25, hic, hn, ha, hd, hbz, i6]
                          rw [hcan, retB, hbz, Bool.false_and]
                        | true =>
                          rw [I4.rel.dn n hn6 hbz] at hd2
                          cases htk : (W.ws.getD n default).took with
                          | true =>
                            have htl := I4.rel.tl n hn6 hbz htk
                            simp -implicitDefEqProofs (maxSteps := 1000000) (disch := omega) only [↓xsP, ↓vc_seq, xsQ, xsT, xsR, xsD, ↓reduceIte, reduceCtorEq, eq_self, ne_eq, imp_self, forall_const, Nat.reduceEqDiff, Nat.reduceAdd, Nat.reduceSub, Nat.reduceMul, Nat.reduceLT, Nat.reduceLeDiff, Nat.reduceBEq, Nat.reduceDiv, Nat.reduceMod, Int.reduceToNat, Int.reduceNeg, Int.reduceAdd, Int.reduceSub, Int.reduceMul, Int.reduceEq, Int.reduceNe, Int.reduceLT, Int.reduceLE, Int.reduceGT, Int.reduceGE, f5, f6, f9, f10, f11, f12, f13, f14, f15, f16, f17, f18, f53, f54, f55, f20, f21, f22, f25, hN25, hic, hn, ha, hb, hdd, hd, hd2, hd3, hbz, htk, i6]
                            refine dcallI_of (sameAnsR_wk a (L.told.getD n default) lp hlp (by omega) _) ?_
                            rw [htl]
                            have er : retB W n a = bof (a = (W.ws.getD n default).ans) := by
                              rw [retB, hbz, htk, if_pos rfl, Bool.true_and]
                              exact bof_congr eq_comm
                            rw [← er, ← hcan]
                            simp -implicitDefEqProofs (maxSteps := 1000000) (disch := omega) only [↓xsP, ↓vc_seq, xsQ, xsT, xsR, xsD, ↓reduceIte, reduceCtorEq, eq_self, ne_eq, imp_self, forall_const, Nat.reduceEqDiff, Nat.reduceAdd, Nat.reduceSub, Nat.reduceMul, Nat.reduceLT, Nat.reduceLeDiff, Nat.reduceBEq, Nat.reduceDiv, Nat.reduceMod, Int.reduceToNat, Int.reduceNeg, Int.reduceAdd, Int.reduceSub, Int.reduceMul, Int.reduceEq, Int.reduceNe, Int.reduceLT, Int.reduceLE, Int.reduceGT, Int.reduceGE, f5, f6, f9, f10, f11, f12, f13, f14, f15, f16, f17, f18, f53, f54, f55, f20, f21, f22, f25, hN25, hic, hn, ha, hb, hdd, hd, hd2, hd3, hbz, htk, i6]
                            refine gI_f (fun hc => ?_) (fun hc => ?_)
                            · simp -implicitDefEqProofs (maxSteps := 1000000) (disch := omega) only [↓xsP, ↓vc_seq, xsQ, xsT, xsR, xsD, ↓reduceIte, reduceCtorEq, eq_self, ne_eq, imp_self, forall_const, Nat.reduceEqDiff, Nat.reduceAdd, Nat.reduceSub, Nat.reduceMul, Nat.reduceLT, Nat.reduceLeDiff, Nat.reduceBEq, Nat.reduceDiv, Nat.reduceMod, Int.reduceToNat, Int.reduceNeg, Int.reduceAdd, Int.reduceSub, Int.reduceMul, Int.reduceEq, Int.reduceNe, Int.reduceLT, Int.reduceLE, Int.reduceGT, Int.reduceGE, f5, f6, f9, f10, f11, f12, f13, f14, f15, f16, f17, f18, f53, f54, f55, f20, f21, f22, f25, hN25, hic, hn, ha, hb, hdd, hd, hd2, hd3, hbz, htk, i6, hc]
                            · simp -implicitDefEqProofs (maxSteps := 1000000) (disch := omega) only [↓xsP, ↓vc_seq, xsQ, xsT, xsR, xsD, ↓reduceIte, reduceCtorEq, eq_self, ne_eq, imp_self, forall_const, Nat.reduceEqDiff, Nat.reduceAdd, Nat.reduceSub, Nat.reduceMul, Nat.reduceLT, Nat.reduceLeDiff, Nat.reduceBEq, Nat.reduceDiv, Nat.reduceMod, Int.reduceToNat, Int.reduceNeg, Int.reduceAdd, Int.reduceSub, Int.reduceMul, Int.reduceEq, Int.reduceNe, Int.reduceLT, Int.reduceLE, Int.reduceGT, Int.reduceGE, f5, f6, f9, f10, f11, f12, f13, f14, f15, f16, f17, f18, f53, f54, f55, f20, f21, f22, f25, hN25, hic, hn, ha, hb, hdd, hd, hd2, hd3, hbz, htk, i6, hc]
                          | false =>
                            have er : retB W n a = !decide (a.err = 0) := by rw [retB, hbz, htk, if_neg (by simp), Bool.true_and]
                            simp -implicitDefEqProofs (maxSteps := 1000000) (disch := omega) only [↓xsP, ↓vc_seq, xsQ, xsT, xsR, xsD, ↓reduceIte, reduceCtorEq, eq_self, ne_eq, imp_self, forall_const, Nat.reduceEqDiff, Nat.reduceAdd, Nat.reduceSub, Nat.reduceMul, Nat.reduceLT, Nat.reduceLeDiff, Nat.reduceBEq, Nat.reduceDiv, Nat.reduceMod, Int.reduceToNat, Int.reduceNeg, Int.reduceAdd, Int.reduceSub, Int.reduceMul, Int.reduceEq, Int.reduceNe, Int.reduceLT, Int.reduceLE, Int.reduceGT, Int.reduceGE, f5, f6, f9, f10, f11, f12, f13, f14, f15, f16, f17, f18, f53, f54, f55, f20, f21, f22, f25, hN25, hic, hn, ha, hb, hdd, hd, hd2, hd3, hbz, htk, i6]
                            rw [hcan, er, decide_not]
                    · clear f5 f6 f9 f10 f11 f12 f13 f14 f15 f16 f17 f18 f53 f54 f55 f20 f21 f22 f25
                      rintro fr M5 ⟨rfl, f5, f6, f9, f10, f11, f12, f13, f14, f15, f16, f17, f18, f53, f54, f55, f20, f21, f22, f25, f26⟩
                      cases hic : inn with
                      | false =>
                        have hout : s.who < 0 ∨ 6 ≤ s.who := by rw [hinn] at hic; have := of_decide_eq_false hic; omega
                        rw [hic, Bool.false_and] at hcan
                        simp -implicitDefEqProofs (maxSteps := 1000000) (disch := omega) only [↓xsP, ↓vc_seq, xsQ, xsT, xsR, xsD, ↓reduceIte, reduceCtorEq, eq_self, ne_eq, imp_self, forall_const, Nat.reduceEqDiff, Nat.reduceAdd, Nat.reduceSub, Nat.reduceMul, Nat.reduceLT, Nat.reduceLeDiff, Nat.reduceBEq, Nat.reduceDiv, Nat.reduceMod, Int.reduceToNat, Int.reduceNeg, Int.reduceAdd, Int.reduceSub, Int.reduceMul, Int.reduceEq, Int.reduceNe, Int.reduceLT, Int.reduceLE, Int.reduceGT, Int.reduceGE, f5, f6, f9, f10, f11, f12, f13, f14, f15, f16, f17, f18, f53, f54, f55, f20, f21, f22, f25, f26, hN25, hic, hcan]
                        refine callI_of ((ret_out_wk id s.who a lp hlp _ hout).mono ?_)
                        rintro _ _ ⟨rfl, rfl⟩
                        simp -implicitDefEqProofs (maxSteps := 1000000) (disch := omega) only [↓xsP, ↓vc_seq, xsQ, xsT, xsR, xsD, ↓reduceIte, reduceCtorEq, eq_self, ne_eq, imp_self, forall_const, Nat.reduceEqDiff, Nat.reduceAdd, Nat.reduceSub, Nat.reduceMul, Nat.reduceLT, Nat.reduceLeDiff, Nat.reduceBEq, Nat.reduceDiv, Nat.reduceMod, Int.reduceToNat, Int.reduceNeg, Int.reduceAdd, Int.reduceSub, Int.reduceMul, Int.reduceEq, Int.reduceNe, Int.reduceLT, Int.reduceLE, Int.reduceGT, Int.reduceGE, f5, f6, f9, f10, f11, f12, f13, f14, f15, f16, f17, f18, f53, f54, f55, f20, f21, f22, f25, f26, hN25, hic, hcan, beq_self_eq_true]
                        exact ⟨x, xh, xw, o, W, L, h, B4, good, rfl, rfl, rfl, rfl, rfl, I4.up⟩
                      | true =>
                        obtain ⟨n, hn, hn6⟩ : ∃ n : Nat, s.who = (n : Int) ∧ n < 6 := by rw [hinn] at hic; have := of_decide_eq_true hic; exact ⟨s.who.toNat, by omega, by omega⟩
                        rw [hic, hn, Int.toNat_natCast, Bool.true_and] at hcan
                        have i6 : ∀ X : AV, (if 0 ≤ (n : Int) ∧ (n : Int) < ((6 : Nat) : Int) then some X else none) = some X := fun X => if_pos ⟨by omega, by omega⟩
                        have hd := arr_bool (show n < L.on.length by rw [I4.loc.la]; exact hn6)
                        rw [I4.rel.on n hn6] at hd
                        simp -implicitDefEqProofs (maxSteps := 1000000) (disch := omega) only [↓xsP, ↓vc_seq, xsQ, xsT, xsR, xsD, ↓reduceIte, reduceCtorEq, eq_self, ne_eq, imp_self, forall_const, Nat.reduceEqDiff, Nat.reduceAdd, Nat.reduceSub, Nat.reduceMul, Nat.reduceLT, Nat.reduceLeDiff, Nat.reduceBEq, Nat.reduceDiv, Nat.reduceMod, Int.reduceToNat, Int.reduceNeg, Int.reduceAdd, Int.reduceSub, Int.reduceMul, Int.reduceEq, Int.reduceNe, Int.reduceLT, Int.reduceLE, Int.reduceGT, Int.reduceGE, f5, f6, f9, f10, f11, f12, f13, f14, f15, f16, f17, f18, f53, f54, f55, f20, f21, f22, f25, f26, hN25, hic, hn]
                        refine callI_of ((ret_wk I4.win n hn6 a lp hlp (by have := I4.rel.bw n hn6; omega)).mono ?_)
                        rintro _ N5 ⟨rfl, hW5⟩
                        rw [← hcan]
                        have ha := hW5.le _ _ I4.loc.ma
                        rw [bB] at ha
                        cases hbz : (W.ws.getD n default).busy with
                        | false =>
                          have eW : retW W n = W := by rw [retW, hbz, if_neg (by simp)]
                          rw [eW] at hW5
                          simp -implicitDefEqProofs (maxSteps := 1000000) (disch := omega) only [↓xsP, ↓vc_seq, xsQ, xsT, xsR, xsD, ↓reduceIte, reduceCtorEq, eq_self, ne_eq, imp_self, forall_const, Nat.reduceEqDiff, Nat.reduceAdd, Nat.reduceSub, Nat.reduceMul, Nat.reduceLT, Nat.reduceLeDiff, Nat.reduceBEq, Nat.reduceDiv, Nat.reduceMod, Int.reduceToNat, Int.reduceNeg, Int.reduceAdd, Int.reduceSub, Int.reduceMul, Int.reduceEq, Int.reduceNe, Int.reduceLT, Int.reduceLE, Int.reduceGT, Int.reduceGE, f5, f6, f9, f10, f11, f12, f13, f14, f15, f16, f17, f18, f53, f54, f55, f20, f21, f22, f25, f26, hN25, hic, beq_self_eq_true, hn, ha, hd, hbz, i6]
                          exact ⟨x, xh, xw, o, W, L, h, B4, good, rfl, rfl, rfl, rfl, rfl, PlaysI.up { I4 with win := hW5 }⟩
                        | true =>
                          have h25b := hW5.le _ _ h25
                          rw [ansR] at h25b
                          simp -implicitDefEqProofs (maxSteps := 1000000) (disch := omega) only [↓xsP, xsQ, xsT, xsR, xsD, ↓reduceIte, reduceCtorEq, eq_self, ne_eq, imp_self, forall_const, Nat.reduceEqDiff, Nat.reduceAdd, Nat.reduceSub, Nat.reduceMul, Nat.reduceLT, Nat.reduceLeDiff, Nat.reduceBEq, Nat.reduceDiv, Nat.reduceMod, Int.reduceToNat, Int.reduceNeg, Int.reduceAdd, Int.reduceSub, Int.reduceMul, Int.reduceEq, Int.reduceNe, Int.reduceLT, Int.reduceLE, Int.reduceGT, Int.reduceGE, f5, f6, f9, f10, f11, f12, f13, f14, f15, f16, f17, f18, f53, f54, f55, f20, f21, f22, f25, f26, h25b, hic, beq_self_eq_true, hn, ha, hd, hbz, i6]
                          refine vc_seq_of ?_
                          simp -implicitDefEqProofs (maxSteps := 1000000) (disch := omega) only [↓xsP, xsQ, xsT, xsR, xsD, ↓reduceIte, reduceCtorEq, eq_self, ne_eq, imp_self, forall_const, Nat.reduceEqDiff, Nat.reduceAdd, Nat.reduceSub, Nat.reduceMul, Nat.reduceLT, Nat.reduceLeDiff, Nat.reduceBEq, Nat.reduceDiv, Nat.reduceMod, Int.reduceToNat, Int.reduceNeg, Int.reduceAdd, Int.reduceSub, Int.reduceMul, Int.reduceEq, Int.reduceNe, Int.reduceLT, Int.reduceLE, Int.reduceGT, Int.reduceGE, f5, f6, f9, f10, f11, f12, f13, f14, f15, f16, f17, f18, f53, f54, f55, f20, f21, f22, f25, f26, h25b, hic, beq_self_eq_true, hn, ha, hd, hbz, i6]
                          refine vc_cut (fun fr' M5 => M5 = N5 ∧ fr' 5 = .l (.ptr id 0 0) ∧ fr' 6 = .l x ∧ fr' 9 = .l xf ∧ fr' 10 = .l (.ptr p.a 0 0) ∧ fr' 11 = .l (.ptr p.b 0 0) ∧ fr' 12 = .l (.ptr p.c 0 0) ∧ fr' 13 = .l (.ptr p.d 0 0) ∧ fr' 14 = .l (.ptr p.e 0 0) ∧ fr' 15 = .l xh ∧ fr' 16 = .l xw ∧ fr' 17 = .l (.int .i64 W.calls) ∧ fr' 18 = .l (.bool (good && can)) ∧ fr' 53 = .l (.sl (l.map Stp.row)) ∧ fr' 54 = .l (.int .i64 l.length) ∧ fr' 55 = .l (.int .i64 i) ∧ fr' 20 = .l (.ptr id20 0 0) ∧ fr' 21 = .l (.int .i64 n) ∧ fr' 22 = .l (.bool true) ∧ fr' 25 = .l (.ptr id25 0 0)) ?_ ?_
                          · simp -implicitDefEqProofs (maxSteps := 1000000) (disch := omega) only [↓xsP, ↓vc_seq, xsQ, xsT, xsR, xsD, ↓reduceIte, reduceCtorEq, eq_self, ne_eq, imp_self, forall_const, Nat.reduceEqDiff, Nat.reduceAdd, Nat.reduceSub, Nat.reduceMul, Nat.reduceLT, Nat.reduceLeDiff, Nat.reduceBEq, Nat.reduceDiv, Nat.reduceMod, Int.reduceToNat, Int.reduceNeg, Int.reduceAdd, Int.reduceSub, Int.reduceMul, Int.reduceEq, Int.reduceNe, Int.reduceLT, Int.reduceLE, Int.reduceGT, Int.reduceGE, f5, f6, f9, f10, f11, f12, f13, f14, f15, f16, f17, f18, f53, f54, f55, f20, f21, f22, f25, f26, h25b, hic, beq_self_eq_true, hn, ha, hd, hbz, i6]
                            refine gI_t (fun hg => ?_) (fun hg => ?_)
                            · simp -implicitDefEqProofs (maxSteps := 1000000) (disch := omega) only [↓xsP, ↓vc_seq, xsQ, xsT, xsR, xsD, ↓reduceIte, reduceCtorEq, eq_self, ne_eq, imp_self, forall_const, Nat.reduceEqDiff, Nat.reduceAdd, Nat.reduceSub, Nat.reduceMul, Nat.reduceLT, Nat.reduceLeDiff, Nat.reduceBEq, Nat.reduceDiv, Nat.reduceMod, Int.reduceToNat, Int.reduceNeg, Int.reduceAdd, Int.reduceSub, Int.reduceMul, Int.reduceEq, Int.reduceNe, Int.reduceLT, Int.reduceLE, Int.reduceGT, Int.reduceGE, f5, f6, f9, f10, f11, f12, f13, f14, f15, f16, f17, f18, f53, f54, f55, f20, f21, f22, f25, f26, h25b, hic, beq_self_eq_true, hn, ha, hd, hbz, i6, hg]
                            · simp -implicitDefEqProofs (maxSteps := 1000000) (disch := omega) only [↓xsP, ↓vc_seq, xsQ, xsT, xsR, xsD, ↓reduceIte, reduceCtorEq, eq_self, ne_eq, imp_self, forall_const, Nat.reduceEqDiff, Nat.reduceAdd, Nat.reduceSub, Nat.reduceMul, Nat.reduceLT, Nat.reduceLeDiff, Nat.reduceBEq, Nat.reduceDiv, Nat.reduceMod, Int.reduceToNat, Int.reduceNeg, Int.reduceAdd, Int.reduceSub, Int.reduceMul, Int.reduceEq, Int.reduceNe, Int.reduceLT, Int.reduceLE, Int.reduceGT, Int.reduceGE, f5, f6, f9, f10, f11, f12, f13, f14, f15, f16, f17, f18, f53, f54, f55, f20, f21, f22, f25, f26, h25b, hic, beq_self_eq_true, hn, ha, hd, hbz, i6, hg]
                          · clear f5 f6 f9 f10 f11 f12 f13 f14 f15 f16 f17 f18 f53 f54 f55 f20 f21 f22 f25 f26
                            rintro fr M5 ⟨rfl, f5, f6, f9, f10, f11, f12, f13, f14, f15, f16, f17, f18, f53, f54, f55, f20, f21, f22, f25⟩
                            have hc := hW5.le _ _ I4.loc.mc
                            rw [bO] at hc
                            have la : (arr brow L.on).length = 6 := (arr_len (row := brow) (n := 1) (fun _ => rfl) L.on).trans (by rw [I4.loc.la])
                            have z1 : (n + 1 ≤ 6) = True := eq_true (by omega)
                            have ho := arr_opn (show n < L.op.length by rw [I4.loc.lc]; exact hn6)
                            rw [I4.rel.op n hn6 hbz] at ho
                            have n25a := ne_ty h25b ha (by decide)
                            have nca := ne_ty hc ha (by decide)
                            have ncx := ne_ty hc h25b (by decide)
                            simp -implicitDefEqProofs (maxSteps := 1000000) (disch := omega) only [↓xsP, ↓vc_seq, xsQ, xsT, xsR, xsD, ↓reduceIte, reduceCtorEq, eq_self, ne_eq, imp_self, forall_const, Nat.reduceEqDiff, Nat.reduceAdd, Nat.reduceSub, Nat.reduceMul, Nat.reduceLT, Nat.reduceLeDiff, Nat.reduceBEq, Nat.reduceDiv, Nat.reduceMod, Int.reduceToNat, Int.reduceNeg, Int.reduceAdd, Int.reduceSub, Int.reduceMul, Int.reduceEq, Int.reduceNe, Int.reduceLT, Int.reduceLE, Int.reduceGT, Int.reduceGE, f5, f6, f9, f10, f11, f12, f13, f14, f15, f16, f17, f18, f53, f54, f55, f20, f21, f22, f25, h25b, ha, la, z1, i6]
                            have s1 := arr_set (row := brow) (n := 1) (fun _ => rfl) false L.on n (by rw [I4.loc.la]; exact hn6)
                            rw [Nat.mul_one] at s1
                            have J5 := I4.loc.on (l := L.on.set n false) (by rw [List.length_set]; exact I4.loc.la)
                            have hW6 := hW5.put I4.loc.ma (bB (L.on.set n false))
                            obtain ⟨N6, eN⟩ : ∃ N6, N6 = M5.set p.a (bB (L.on.set n false)) := ⟨_, rfl⟩
                            rw [← eN] at hW6
                            rw [show List.take n (arr brow L.on) ++ [Lf.bool false] ++ List.drop (n + 1) (arr brow L.on) = _ from s1, bB_fold, ← eN]
                            have h25c : (B4.set p.a (bB (L.on.set n false))) id25 = some (.cells 29 [ansR a lp] 0) := by
                              rw [Mem.set_ne _ _ _ _ (fun e => n25a e.symm)]
                              exact h25
                            generalize Mem.set B4 p.a _ = B6 at hW6 J5 h25c
                            have hc6 := hW6.le _ _ J5.mc
                            have h256 := hW6.le _ _ h25c
                            rw [bO] at hc6
                            rw [ansR] at h256
                            have hrow : ∀ r : List Lf, r = [.int .i64 n, .bool true, .int .i64 (W.ws.getD n default).op.kind, .int .i64 (W.ws.getD n default).op.key, .int .i64 (W.ws.getD n default).op.to, .int .i64 (W.ws.getD n default).op.val, .int .i64 a.err, .bool a.ok, .int .i64 a.pair.key, .int .i64 a.pair.val, .int .i64 a.n, lp] → r.map wkL = Evt.row ⟨n, true, (W.ws.getD n default).op, a⟩ := by
                              rintro r rfl
                              simp only [List.map_cons, List.map_nil, wkL_int, wkL_bool, hlp, row_evt]
                            rcases J5.xh with ⟨rfl, rfl⟩ | ⟨ih, rs, hMi, hBi, hrs, rfl⟩
                            · refine xwrite (fun n0 => [ ]) [] [7, 8] [[], [], [], [], [], [], [], [], [], []] (by kernel_rfl) (by kernel_rfl) (by kernel_rfl) (by kernel_rfl) (fun n0 hn0 => ⟨rfl, ?_, ?_⟩)
                              · exact TOk_nil _ _
                              · have kc := lt_of_bnd hn0 hc6
                                have k25 := lt_of_bnd hn0 h256
                                simp -implicitDefEqProofs (maxSteps := 1000000) (disch := omega) only [↓xsP, ↓vc_seq, xsQ, xsT, xsR, xsD, ↓reduceIte, reduceCtorEq, eq_self, ne_eq, imp_self, forall_const, Nat.reduceEqDiff, Nat.reduceAdd, Nat.reduceSub, Nat.reduceMul, Nat.reduceLT, Nat.reduceLeDiff, Nat.reduceBEq, Nat.reduceDiv, Nat.reduceMod, Int.reduceToNat, Int.reduceNeg, Int.reduceAdd, Int.reduceSub, Int.reduceMul, Int.reduceEq, Int.reduceNe, Int.reduceLT, Int.reduceLE, Int.reduceGT, Int.reduceGE, f5, f6, f9, f10, f11, f12, f13, f14, f15, f16, f17, f18, f53, f54, f55, f20, f21, f22, f25, hc6, h256, ho, i6]
                                refine ⟨.inl (by decide), ?_⟩
                                refine wapp_nilG ti_53 rfl ti_65 (by kernel_rfl) (by decide) [[.int .i64 n, .bool true, .int .i64 (W.ws.getD n default).op.kind, .int .i64 (W.ws.getD n default).op.key, .int .i64 (W.ws.getD n default).op.to, .int .i64 (W.ws.getD n default).op.val, .int .i64 a.err, .bool a.ok, .int .i64 a.pair.key, .int .i64 a.pair.val, .int .i64 a.n, lp]] ?_ (by simp) ?_ ?_ ?_
                                · simp -implicitDefEqProofs (maxSteps := 1000000) (disch := omega) only [↓xsP, ↓vc_seq, xsQ, xsT, xsR, xsD, ↓reduceIte, reduceCtorEq, eq_self, ne_eq, imp_self, forall_const, Nat.reduceEqDiff, Nat.reduceAdd, Nat.reduceSub, Nat.reduceMul, Nat.reduceLT, Nat.reduceLeDiff, Nat.reduceBEq, Nat.reduceDiv, Nat.reduceMod, Int.reduceToNat, Int.reduceNeg, Int.reduceAdd, Int.reduceSub, Int.reduceMul, Int.reduceEq, Int.reduceNe, Int.reduceLT, Int.reduceLE, Int.reduceGT, Int.reduceGE]
                                · exact Nat.le_trans (Nat.mul_le_mul_right _ (show 1 ≤ 1000 by omega)) (by decide)
                                · show 1 ≤ 140737488355328
                                  omega
                                simp -implicitDefEqProofs (maxSteps := 1000000) (disch := omega) only [↓xsP, ↓vc_seq, xsQ, xsT, xsR, xsD, ↓reduceIte, reduceCtorEq, eq_self, ne_eq, imp_self, forall_const, Nat.reduceEqDiff, Nat.reduceAdd, Nat.reduceSub, Nat.reduceMul, Nat.reduceLT, Nat.reduceLeDiff, Nat.reduceBEq, Nat.reduceDiv, Nat.reduceMod, Int.reduceToNat, Int.reduceNeg, Int.reduceAdd, Int.reduceSub, Int.reduceMul, Int.reduceEq, Int.reduceNe, Int.reduceLT, Int.reduceLE, Int.reduceGT, Int.reduceGE, f5, f6, f9, f10, f11, f12, f13, f14, f15, f16, f17, f18, f53, f54, f55, f20, f21, f22, f25, hc6, h256, ho, i6]
                                refine ⟨.inl (by decide), ?_⟩
                                obtain ⟨R, hR⟩ : ∃ R : List Lf, R = [.int .i64 n, .bool true, .int .i64 (W.ws.getD n default).op.kind, .int .i64 (W.ws.getD n default).op.key, .int .i64 (W.ws.getD n default).op.to, .int .i64 (W.ws.getD n default).op.val, .int .i64 a.err, .bool a.ok, .int .i64 a.pair.key, .int .i64 a.pair.val, .int .i64 a.n, lp] := ⟨_, rfl⟩
                                rw [← hR]
                                have hwk := hrow R hR
                                have ecl : (retW W n).calls = W.calls := by rw [retW, if_pos hbz]
                                obtain ⟨hW7, hB7⟩ := hW6.grow (i := n0 + 7) (fun j hj => hn0 j (by omega)) (.cells 65 [R] 0)
                                have J7 := J5.grow (hB7 _ (Nat.le_refl _)) (.cells 65 [R] 0)
                                have hn8 : ∀ j, n0 + 8 ≤ j → (N6.set (n0 + 7) (.cells 65 [R] 0)) j = none := fun j hj => by rw [Mem.set_ne _ _ _ _ (by omega)]; exact hn0 j (by omega)
                                obtain ⟨hW8, hB8⟩ := hW7.grow hn8 (.cells 65 [R] 0)
                                have J8 := J7.hist0 (h' := [⟨n, true, (W.ws.getD n default).op, a⟩]) (rs' := [R]) (hB8 _ (Nat.le_refl _)) (by rw [List.map_singleton, List.map_singleton, hwk])
                                rw [hcan]
                                exact ⟨x, _, xw, o, retW W n, _, _, _, good && retB W n a, rfl, rfl, rfl, by rw [ecl], rfl, I4.ret hn6 hap hbz hW8 J8⟩
                            · have hNi := hW6.le _ _ hBi
                              refine xwrite (fun n0 => [ (8, ih)]) [8] [7, 8] [[], [], [], [], [], [], [], [], [], []] (by kernel_rfl) (by kernel_rfl) (by kernel_rfl) (by kernel_rfl) (fun n0 hn0 => ⟨rfl, ?_, ?_⟩)
                              · exact TOk_cons (.inl (lt_of_bnd hn0 hNi)) (TOk_nil _ _)
                              · have kc := lt_of_bnd hn0 hc6
                                have k25 := lt_of_bnd hn0 h256
                                have ki := lt_of_bnd hn0 hNi
                                have nic := ne_ty hNi hc6 (by decide)
                                have ni25 := ne_ty hNi h256 (by decide)
                                have hrl : rs.length = h.length := by
                                  have := congrArg List.length hrs
                                  simpa using this
                                simp -implicitDefEqProofs (maxSteps := 1000000) (disch := omega) only [↓xsP, ↓vc_seq, xsQ, xsT, xsR, xsD, ↓reduceIte, reduceCtorEq, eq_self, ne_eq, imp_self, forall_const, Nat.reduceEqDiff, Nat.reduceAdd, Nat.reduceSub, Nat.reduceMul, Nat.reduceLT, Nat.reduceLeDiff, Nat.reduceBEq, Nat.reduceDiv, Nat.reduceMod, Int.reduceToNat, Int.reduceNeg, Int.reduceAdd, Int.reduceSub, Int.reduceMul, Int.reduceEq, Int.reduceNe, Int.reduceLT, Int.reduceLE, Int.reduceGT, Int.reduceGE, f5, f6, f9, f10, f11, f12, f13, f14, f15, f16, f17, f18, f53, f54, f55, f20, f21, f22, f25, hc6, h256, ho, i6]
                                refine ⟨.inl (by decide), ?_⟩
                                refine wapp_ms _ _ _ _ _ 65 _ _ ti_53 rfl ti_65 (by kernel_rfl) (by decide) ih h.length _ (rows := rs) (keep := 0) [[.int .i64 n, .bool true, .int .i64 (W.ws.getD n default).op.kind, .int .i64 (W.ws.getD n default).op.key, .int .i64 (W.ws.getD n default).op.to, .int .i64 (W.ws.getD n default).op.val, .int .i64 a.err, .bool a.ok, .int .i64 a.pair.key, .int .i64 a.pair.val, .int .i64 a.n, lp]] ?_ ?_ (by omega) (Nat.zero_le _) ?_ ?_ ?_
                                · rw [Mem.set_ne _ _ _ _ (by omega)]
                                  exact hNi
                                · simp -implicitDefEqProofs (maxSteps := 1000000) (disch := omega) only [↓xsP, ↓vc_seq, xsQ, xsT, xsR, xsD, ↓reduceIte, reduceCtorEq, eq_self, ne_eq, imp_self, forall_const, Nat.reduceEqDiff, Nat.reduceAdd, Nat.reduceSub, Nat.reduceMul, Nat.reduceLT, Nat.reduceLeDiff, Nat.reduceBEq, Nat.reduceDiv, Nat.reduceMod, Int.reduceToNat, Int.reduceNeg, Int.reduceAdd, Int.reduceSub, Int.reduceMul, Int.reduceEq, Int.reduceNe, Int.reduceLT, Int.reduceLE, Int.reduceGT, Int.reduceGE]
                                · exact Nat.le_trans (Nat.mul_le_mul_right _ (show h.length + 1 ≤ 1001 by omega)) (by decide)
                                · show h.length + 1 ≤ 140737488355328
                                  omega
                                simp -implicitDefEqProofs (maxSteps := 1000000) (disch := omega) only [↓xsP, ↓vc_seq, xsQ, xsT, xsR, xsD, ↓reduceIte, reduceCtorEq, eq_self, ne_eq, imp_self, forall_const, Nat.reduceEqDiff, Nat.reduceAdd, Nat.reduceSub, Nat.reduceMul, Nat.reduceLT, Nat.reduceLeDiff, Nat.reduceBEq, Nat.reduceDiv, Nat.reduceMod, Int.reduceToNat, Int.reduceNeg, Int.reduceAdd, Int.reduceSub, Int.reduceMul, Int.reduceEq, Int.reduceNe, Int.reduceLT, Int.reduceLE, Int.reduceGT, Int.reduceGE, f5, f6, f9, f10, f11, f12, f13, f14, f15, f16, f17, f18, f53, f54, f55, f20, f21, f22, f25, hc6, h256, ho, i6]
                                refine ⟨.inl (by decide), ?_⟩
                                obtain ⟨R, hR⟩ : ∃ R : List Lf, R = [.int .i64 n, .bool true, .int .i64 (W.ws.getD n default).op.kind, .int .i64 (W.ws.getD n default).op.key, .int .i64 (W.ws.getD n default).op.to, .int .i64 (W.ws.getD n default).op.val, .int .i64 a.err, .bool a.ok, .int .i64 a.pair.key, .int .i64 a.pair.val, .int .i64 a.n, lp] := ⟨_, rfl⟩
                                rw [← hR]
                                have hwk := hrow R hR
                                have ecl : (retW W n).calls = W.calls := by rw [retW, if_pos hbz]
                                obtain ⟨hW7, hB7⟩ := hW6.grow (i := n0 + 7) (fun j hj => hn0 j (by omega)) (.cells 65 [R] 0)
                                have J7 := J5.grow (hB7 _ (Nat.le_refl _)) (.cells 65 [R] 0)
                                have hn8 : ∀ j, n0 + 8 ≤ j → (N6.set (n0 + 7) (.cells 65 [R] 0)) j = none := fun j hj => by rw [Mem.set_ne _ _ _ _ (by omega)]; exact hn0 j (by omega)
                                have hBi7 : (B6.set (n0 + 7) (.cells 65 [R] 0)) ih = some (.cells 65 rs 0) := by rw [Mem.set_ne _ _ _ _ (by omega)]; exact hBi
                                have hW8 := hW7.app hBi7 hn8 (.cells 65 (rs ++ [R]) 0)
                                have hB8 : (B6.set (n0 + 7) (.cells 65 [R] 0)) (n0 + 8) = none := by
                                  rw [Mem.set_ne _ _ _ _ (by omega)]
                                  exact hB7 _ (by omega)
                                have J8 := J7.hist hBi7 hMi hB8 (h' := h ++ [⟨n, true, (W.ws.getD n default).op, a⟩]) (rs' := rs ++ [R]) (by rw [List.map_append, List.map_append, hrs, List.map_singleton, List.map_singleton, hwk])
                                rw [hcan, List.take_of_length_le (by omega)]
                                exact ⟨x, _, xw, o, retW W n, _, _, _, good && retB W n a, rfl, by rw [List.length_append]; rfl, rfl, by rw [ecl], rfl, I4.ret hn6 hap hbz hW8 J8⟩
          · clear f5 f6 f9 f10 f11 f12 f13 f14 f15 f16 f17 f18 f53 f54 f55 f20 f21 f22 I1 hlc hls hlo hlh h20 hW1 B1 M3 x xh xw o W L h good
            rintro fr N4 ⟨x, xh, xw, o, W, L, h, B4, good, f5, f6, f9, f10, f11, f12, f13, f14, f15, f16, f17, f18, f53, f54, f55, f20, f21, f22, I4⟩
            refine xquiet (by kernel_rfl) (by kernel_rfl) (by kernel_rfl) ?_
            cases hic : inn with
            | false =>
              simp -implicitDefEqProofs (maxSteps := 1000000) (disch := omega) only [↓xsP, ↓vc_seq, xsQ, xsT, xsR, xsD, ↓reduceIte, reduceCtorEq, eq_self, ne_eq, imp_self, forall_const, Nat.reduceEqDiff, Nat.reduceAdd, Nat.reduceSub, Nat.reduceMul, Nat.reduceLT, Nat.reduceLeDiff, Nat.reduceBEq, Nat.reduceDiv, Nat.reduceMod, Int.reduceToNat, Int.reduceNeg, Int.reduceAdd, Int.reduceSub, Int.reduceMul, Int.reduceEq, Int.reduceNe, Int.reduceLT, Int.reduceLE, Int.reduceGT, Int.reduceGE, f5, f6, f9, f10, f11, f12, f13, f14, f15, f16, f17, f18, f53, f54, f55, f20, f21, f22, hic]
              exact ⟨l.length - (i + 1), N4, by omega, Mem.le_refl _, i + 1, x, xf, xh, xw, o, W, L, h, B4, good, by omega, rfl, rfl, rfl, rfl, rfl, rfl, rfl, by simp, I4⟩
            | true =>
              obtain ⟨n, hn, hn6⟩ : ∃ n : Nat, s.who = (n : Int) ∧ n < 6 := by rw [hinn] at hic; have := of_decide_eq_true hic; exact ⟨s.who.toNat, by omega, by omega⟩
              have ha := I4.win.le _ _ I4.loc.ma
              rw [bB] at ha
              have i6 : ∀ X : AV, (if 0 ≤ (n : Int) ∧ (n : Int) < ((6 : Nat) : Int) then some X else none) = some X := fun X => if_pos ⟨by omega, by omega⟩
              have hd := arr_bool (show n < L.on.length by rw [I4.loc.la]; exact hn6)
              rw [I4.rel.on n hn6] at hd
              simp -implicitDefEqProofs (maxSteps := 1000000) (disch := omega) only [↓xsP, ↓vc_seq, xsQ, xsT, xsR, xsD, ↓reduceIte, reduceCtorEq, eq_self, ne_eq, imp_self, forall_const, Nat.reduceEqDiff, Nat.reduceAdd, Nat.reduceSub, Nat.reduceMul, Nat.reduceLT, Nat.reduceLeDiff, Nat.reduceBEq, Nat.reduceDiv, Nat.reduceMod, Int.reduceToNat, Int.reduceNeg, Int.reduceAdd, Int.reduceSub, Int.reduceMul, Int.reduceEq, Int.reduceNe, Int.reduceLT, Int.reduceLE, Int.reduceGT, Int.reduceGE, f5, f6, f9, f10, f11, f12, f13, f14, f15, f16, f17, f18, f53, f54, f55, f20, f21, f22, hic, hn, ha, hd, i6]
              refine dcallI_of (busy_in I4.win n hn6) ?_
              simp -implicitDefEqProofs (maxSteps := 1000000) (disch := omega) only [↓xsP, ↓vc_seq, xsQ, xsT, xsR, xsD, ↓reduceIte, reduceCtorEq, eq_self, ne_eq, imp_self, forall_const, Nat.reduceEqDiff, Nat.reduceAdd, Nat.reduceSub, Nat.reduceMul, Nat.reduceLT, Nat.reduceLeDiff, Nat.reduceBEq, Nat.reduceDiv, Nat.reduceMod, Int.reduceToNat, Int.reduceNeg, Int.reduceAdd, Int.reduceSub, Int.reduceMul, Int.reduceEq, Int.reduceNe, Int.reduceLT, Int.reduceLE, Int.reduceGT, Int.reduceGE, f5, f6, f9, f10, f11, f12, f13, f14, f15, f16, f17, f18, f53, f54, f55, f20, f21, f22, hic, hn, ha, hd, i6, beq_self_eq_true]
              exact ⟨l.length - (i + 1), N4, by omega, Mem.le_refl _, i + 1, x, xf, xh, xw, o, W, L, h, B4, good, by omega, rfl, rfl, rfl, rfl, rfl, rfl, rfl, by simp, I4⟩
        · simp -implicitDefEqProofs (maxSteps := 1000000) (disch := omega) only [↓xsP, ↓vc_seq, xsQ, xsT, xsR, xsD, ↓reduceIte, reduceCtorEq, eq_self, ne_eq, imp_self, forall_const, Nat.reduceEqDiff, Nat.reduceAdd, Nat.reduceSub, Nat.reduceMul, Nat.reduceLT, Nat.reduceLeDiff, Nat.reduceBEq, Nat.reduceDiv, Nat.reduceMod, Int.reduceToNat, Int.reduceNeg, Int.reduceAdd, Int.reduceSub, Int.reduceMul, Int.reduceEq, Int.reduceNe, Int.reduceLT, Int.reduceLE, Int.reduceGT, Int.reduceGE, f5, f6, f9, f10, f11, f12, f13, f14, f15, f16, f17, f18, f53, f54, f55]
          have hil : i = l.length := by omega
          have hL1 : l.length ≤ 120 := hL.1
          have hls := I.ls
          have hlo := I.lo
          have hlh := I.lh
          refine call_of (worder_spec I.win (by omega)) ?_
          simp -implicitDefEqProofs (maxSteps := 1000000) (disch := omega) only [↓xsP, xsQ, xsT, xsR, xsD, ↓reduceIte, reduceCtorEq, eq_self, ne_eq, imp_self, forall_const, Nat.reduceEqDiff, Nat.reduceAdd, Nat.reduceSub, Nat.reduceMul, Nat.reduceLT, Nat.reduceLeDiff, Nat.reduceBEq, Nat.reduceDiv, Nat.reduceMod, Int.reduceToNat, Int.reduceNeg, Int.reduceAdd, Int.reduceSub, Int.reduceMul, Int.reduceEq, Int.reduceNe, Int.reduceLT, Int.reduceLE, Int.reduceGT, Int.reduceGE, f5, f6, f9, f10, f11, f12, f13, f14, f15, f16, f17, f18, f53, f54, f55]
          refine vc_cut (fun fr' M3 => M3 = M2 ∧ fr' 9 = .l xf ∧ fr' 15 = .l xh ∧ fr' 16 = .l xw ∧ fr' 18 = .l (.bool good) ∧ fr' 27 = .l (.sl (W.ord.map irow))) ?_ ?_
          · rcases I.loc.xw with ⟨ew, rfl⟩ | ⟨iw, hMw, hBw, rfl⟩
            · have c0 : (((0 : Nat) : Int) = 0) = True := eq_true rfl
              simp -implicitDefEqProofs (maxSteps := 1000000) (disch := omega) only [↓xsP, ↓vc_seq, xsQ, xsT, xsR, xsD, ↓reduceIte, reduceCtorEq, eq_self, ne_eq, imp_self, forall_const, Nat.reduceEqDiff, Nat.reduceAdd, Nat.reduceSub, Nat.reduceMul, Nat.reduceLT, Nat.reduceLeDiff, Nat.reduceBEq, Nat.reduceDiv, Nat.reduceMod, Int.reduceToNat, Int.reduceNeg, Int.reduceAdd, Int.reduceSub, Int.reduceMul, Int.reduceEq, Int.reduceNe, Int.reduceLT, Int.reduceLE, Int.reduceGT, Int.reduceGE, f5, f6, f9, f10, f11, f12, f13, f14, f15, f16, f17, f18, f53, f54, f55, ew, c0]
              refine call_of (wpairs_spec I.win (by omega)) ?_
              simp -implicitDefEqProofs (maxSteps := 1000000) (disch := omega) only [↓xsP, ↓vc_seq, xsQ, xsT, xsR, xsD, ↓reduceIte, reduceCtorEq, eq_self, ne_eq, imp_self, forall_const, Nat.reduceEqDiff, Nat.reduceAdd, Nat.reduceSub, Nat.reduceMul, Nat.reduceLT, Nat.reduceLeDiff, Nat.reduceBEq, Nat.reduceDiv, Nat.reduceMod, Int.reduceToNat, Int.reduceNeg, Int.reduceAdd, Int.reduceSub, Int.reduceMul, Int.reduceEq, Int.reduceNe, Int.reduceLT, Int.reduceLE, Int.reduceGT, Int.reduceGE, f5, f6, f9, f10, f11, f12, f13, f14, f15, f16, f17, f18, f53, f54, f55, ew, c0]
              refine call_of (samePairs_is (.inl rfl) I.x (by omega) _) ?_
              rw [bof_true (p := W.s = W.s) rfl]
              simp -implicitDefEqProofs (maxSteps := 1000000) (disch := omega) only [↓xsP, ↓vc_seq, xsQ, xsT, xsR, xsD, ↓reduceIte, reduceCtorEq, eq_self, ne_eq, imp_self, forall_const, Nat.reduceEqDiff, Nat.reduceAdd, Nat.reduceSub, Nat.reduceMul, Nat.reduceLT, Nat.reduceLeDiff, Nat.reduceBEq, Nat.reduceDiv, Nat.reduceMod, Int.reduceToNat, Int.reduceNeg, Int.reduceAdd, Int.reduceSub, Int.reduceMul, Int.reduceEq, Int.reduceNe, Int.reduceLT, Int.reduceLE, Int.reduceGT, Int.reduceGE, f5, f6, f9, f10, f11, f12, f13, f14, f15, f16, f17, f18, f53, f54, f55, ew, c0]
            · have hNw := I.win.le _ _ hBw
              simp -implicitDefEqProofs (maxSteps := 1000000) (disch := omega) only [↓xsP, ↓vc_seq, xsQ, xsT, xsR, xsD, ↓reduceIte, reduceCtorEq, eq_self, ne_eq, imp_self, forall_const, Nat.reduceEqDiff, Nat.reduceAdd, Nat.reduceSub, Nat.reduceMul, Nat.reduceLT, Nat.reduceLeDiff, Nat.reduceBEq, Nat.reduceDiv, Nat.reduceMod, Int.reduceToNat, Int.reduceNeg, Int.reduceAdd, Int.reduceSub, Int.reduceMul, Int.reduceEq, Int.reduceNe, Int.reduceLT, Int.reduceLE, Int.reduceGT, Int.reduceGE, f5, f6, f9, f10, f11, f12, f13, f14, f15, f16, f17, f18, f53, f54, f55, hNw]
              refine call_of (wpairs_spec I.win (by omega)) ?_
              simp -implicitDefEqProofs (maxSteps := 1000000) (disch := omega) only [↓xsP, ↓vc_seq, xsQ, xsT, xsR, xsD, ↓reduceIte, reduceCtorEq, eq_self, ne_eq, imp_self, forall_const, Nat.reduceEqDiff, Nat.reduceAdd, Nat.reduceSub, Nat.reduceMul, Nat.reduceLT, Nat.reduceLeDiff, Nat.reduceBEq, Nat.reduceDiv, Nat.reduceMod, Int.reduceToNat, Int.reduceNeg, Int.reduceAdd, Int.reduceSub, Int.reduceMul, Int.reduceEq, Int.reduceNe, Int.reduceLT, Int.reduceLE, Int.reduceGT, Int.reduceGE, f5, f6, f9, f10, f11, f12, f13, f14, f15, f16, f17, f18, f53, f54, f55, hNw]
              refine call_of (samePairs_is (.inl rfl) I.x (by omega) _) ?_
              rw [bof_true (p := W.s = W.s) rfl]
              simp -implicitDefEqProofs (maxSteps := 1000000) (disch := omega) only [↓xsP, ↓vc_seq, xsQ, xsT, xsR, xsD, ↓reduceIte, reduceCtorEq, eq_self, ne_eq, imp_self, forall_const, Nat.reduceEqDiff, Nat.reduceAdd, Nat.reduceSub, Nat.reduceMul, Nat.reduceLT, Nat.reduceLeDiff, Nat.reduceBEq, Nat.reduceDiv, Nat.reduceMod, Int.reduceToNat, Int.reduceNeg, Int.reduceAdd, Int.reduceSub, Int.reduceMul, Int.reduceEq, Int.reduceNe, Int.reduceLT, Int.reduceLE, Int.reduceGT, Int.reduceGE, f5, f6, f9, f10, f11, f12, f13, f14, f15, f16, f17, f18, f53, f54, f55, hNw]
          clear f5 f6 f9 f10 f11 f12 f13 f14 f15 f16 f17 f18 f53 f54 f55
          rintro fr M3 ⟨rfl, f9, f15, f16, f18, f27⟩
          refine vc_cut (fun fr' M4 => M4 = M3 ∧ fr' 9 = .l xf ∧ fr' 15 = .l xh ∧ fr' 18 = .l (.bool good) ∧ fr' 27 = .l (.sl (W.ord.map irow))) ?_ ?_
          · simp -implicitDefEqProofs (maxSteps := 1000000) (disch := omega) only [↓xsP, ↓vc_seq, xsQ, xsT, xsR, xsD, ↓reduceIte, reduceCtorEq, eq_self, ne_eq, imp_self, forall_const, Nat.reduceEqDiff, Nat.reduceAdd, Nat.reduceSub, Nat.reduceMul, Nat.reduceLT, Nat.reduceLeDiff, Nat.reduceBEq, Nat.reduceDiv, Nat.reduceMod, Int.reduceToNat, Int.reduceNeg, Int.reduceAdd, Int.reduceSub, Int.reduceMul, Int.reduceEq, Int.reduceNe, Int.reduceLT, Int.reduceLE, Int.reduceGT, Int.reduceGE, f9, f15, f16, f18, f27]
            refine loopI_of (xloop (by kernel_rfl) (fun k fr M4 => ∃ j : Nat, j ≤ W.ord.length ∧ k = W.ord.length - j ∧ fr 9 = .l xf ∧ fr 15 = .l xh ∧ fr 16 = .l xw ∧ fr 18 = .l (.bool good) ∧ fr 27 = .l (.sl (W.ord.map irow)) ∧ fr 246 = .l (.int .i64 W.ord.length) ∧ fr 247 = .l (.int .i64 j) ∧ M4 = M3) W.ord.length ?_ ?_)
            · exact ⟨0, Nat.zero_le _, rfl, by simp -implicitDefEqProofs (maxSteps := 1000000) (disch := omega) only [↓xsP, ↓vc_seq, xsQ, xsT, xsR, xsD, ↓reduceIte, reduceCtorEq, eq_self, ne_eq, imp_self, forall_const, Nat.reduceEqDiff, Nat.reduceAdd, Nat.reduceSub, Nat.reduceMul, Nat.reduceLT, Nat.reduceLeDiff, Nat.reduceBEq, Nat.reduceDiv, Nat.reduceMod, Int.reduceToNat, Int.reduceNeg, Int.reduceAdd, Int.reduceSub, Int.reduceMul, Int.reduceEq, Int.reduceNe, Int.reduceLT, Int.reduceLE, Int.reduceGT, Int.reduceGE, f9], by simp -implicitDefEqProofs (maxSteps := 1000000) (disch := omega) only [↓xsP, ↓vc_seq, xsQ, xsT, xsR, xsD, ↓reduceIte, reduceCtorEq, eq_self, ne_eq, imp_self, forall_const, Nat.reduceEqDiff, Nat.reduceAdd, Nat.reduceSub, Nat.reduceMul, Nat.reduceLT, Nat.reduceLeDiff, Nat.reduceBEq, Nat.reduceDiv, Nat.reduceMod, Int.reduceToNat, Int.reduceNeg, Int.reduceAdd, Int.reduceSub, Int.reduceMul, Int.reduceEq, Int.reduceNe, Int.reduceLT, Int.reduceLE, Int.reduceGT, Int.reduceGE, f15], by simp -implicitDefEqProofs (maxSteps := 1000000) (disch := omega) only [↓xsP, ↓vc_seq, xsQ, xsT, xsR, xsD, ↓reduceIte, reduceCtorEq, eq_self, ne_eq, imp_self, forall_const, Nat.reduceEqDiff, Nat.reduceAdd, Nat.reduceSub, Nat.reduceMul, Nat.reduceLT, Nat.reduceLeDiff, Nat.reduceBEq, Nat.reduceDiv, Nat.reduceMod, Int.reduceToNat, Int.reduceNeg, Int.reduceAdd, Int.reduceSub, Int.reduceMul, Int.reduceEq, Int.reduceNe, Int.reduceLT, Int.reduceLE, Int.reduceGT, Int.reduceGE, f16], by simp -implicitDefEqProofs (maxSteps := 1000000) (disch := omega) only [↓xsP, ↓vc_seq, xsQ, xsT, xsR, xsD, ↓reduceIte, reduceCtorEq, eq_self, ne_eq, imp_self, forall_const, Nat.reduceEqDiff, Nat.reduceAdd, Nat.reduceSub, Nat.reduceMul, Nat.reduceLT, Nat.reduceLeDiff, Nat.reduceBEq, Nat.reduceDiv, Nat.reduceMod, Int.reduceToNat, Int.reduceNeg, Int.reduceAdd, Int.reduceSub, Int.reduceMul, Int.reduceEq, Int.reduceNe, Int.reduceLT, Int.reduceLE, Int.reduceGT, Int.reduceGE, f18], by simp -implicitDefEqProofs (maxSteps := 1000000) (disch := omega) only [↓xsP, ↓vc_seq, xsQ, xsT, xsR, xsD, ↓reduceIte, reduceCtorEq, eq_self, ne_eq, imp_self, forall_const, Nat.reduceEqDiff, Nat.reduceAdd, Nat.reduceSub, Nat.reduceMul, Nat.reduceLT, Nat.reduceLeDiff, Nat.reduceBEq, Nat.reduceDiv, Nat.reduceMod, Int.reduceToNat, Int.reduceNeg, Int.reduceAdd, Int.reduceSub, Int.reduceMul, Int.reduceEq, Int.reduceNe, Int.reduceLT, Int.reduceLE, Int.reduceGT, Int.reduceGE, f27], by simp -implicitDefEqProofs (maxSteps := 1000000) (disch := omega) only [↓xsP, ↓vc_seq, xsQ, xsT, xsR, xsD, ↓reduceIte, reduceCtorEq, eq_self, ne_eq, imp_self, forall_const, Nat.reduceEqDiff, Nat.reduceAdd, Nat.reduceSub, Nat.reduceMul, Nat.reduceLT, Nat.reduceLeDiff, Nat.reduceBEq, Nat.reduceDiv, Nat.reduceMod, Int.reduceToNat, Int.reduceNeg, Int.reduceAdd, Int.reduceSub, Int.reduceMul, Int.reduceEq, Int.reduceNe, Int.reduceLT, Int.reduceLE, Int.reduceGT, Int.reduceGE], by simp -implicitDefEqProofs (maxSteps := 1000000) (disch := omega) only [↓xsP, ↓vc_seq, xsQ, xsT, xsR, xsD, ↓reduceIte, reduceCtorEq, eq_self, ne_eq, imp_self, forall_const, Nat.reduceEqDiff, Nat.reduceAdd, Nat.reduceSub, Nat.reduceMul, Nat.reduceLT, Nat.reduceLeDiff, Nat.reduceBEq, Nat.reduceDiv, Nat.reduceMod, Int.reduceToNat, Int.reduceNeg, Int.reduceAdd, Int.reduceSub, Int.reduceMul, Int.reduceEq, Int.reduceNe, Int.reduceLT, Int.reduceLE, Int.reduceGT, Int.reduceGE, Int.cast_ofNat_Int], rfl⟩
            · clear f9 f15 f16 f18 f27
              rintro k fr M4 ⟨j, hj, rfl, f9, f15, f16, f18, f27, f246, f247, rfl⟩
              simp -implicitDefEqProofs (maxSteps := 1000000) (disch := omega) only [↓xsP, ↓vc_seq, xsQ, xsT, xsR, xsD, ↓reduceIte, reduceCtorEq, eq_self, ne_eq, imp_self, forall_const, Nat.reduceEqDiff, Nat.reduceAdd, Nat.reduceSub, Nat.reduceMul, Nat.reduceLT, Nat.reduceLeDiff, Nat.reduceBEq, Nat.reduceDiv, Nat.reduceMod, Int.reduceToNat, Int.reduceNeg, Int.reduceAdd, Int.reduceSub, Int.reduceMul, Int.reduceEq, Int.reduceNe, Int.reduceLT, Int.reduceLE, Int.reduceGT, Int.reduceGE, f9, f15, f16, f18, f27, f246, f247]
              refine condI_prop (fun hlt2 => ?_) (fun hlt2 => ?_)
              · have hjl : j < W.ord.length := by omega
                rcases I.loc.xw with ⟨ew, rfl⟩ | ⟨iw, hMw, hBw, rfl⟩
                · rw [ew] at hjl
                  simp at hjl
                · have hNw := I.win.le _ _ hBw
                  simp -implicitDefEqProofs (maxSteps := 1000000) (disch := omega) only [↓xsP, ↓vc_seq, xsQ, xsT, xsR, xsD, ↓reduceIte, reduceCtorEq, eq_self, ne_eq, imp_self, forall_const, Nat.reduceEqDiff, Nat.reduceAdd, Nat.reduceSub, Nat.reduceMul, Nat.reduceLT, Nat.reduceLeDiff, Nat.reduceBEq, Nat.reduceDiv, Nat.reduceMod, Int.reduceToNat, Int.reduceNeg, Int.reduceAdd, Int.reduceSub, Int.reduceMul, Int.reduceEq, Int.reduceNe, Int.reduceLT, Int.reduceLE, Int.reduceGT, Int.reduceGE, f9, f15, f16, f18, f27, f246, f247, hNw]
                  refine xquiet (by kernel_rfl) (by kernel_rfl) (by kernel_rfl) ?_
                  simp -implicitDefEqProofs (maxSteps := 1000000) (disch := omega) only [↓xsP, ↓vc_seq, xsQ, xsT, xsR, xsD, ↓reduceIte, reduceCtorEq, eq_self, ne_eq, imp_self, forall_const, Nat.reduceEqDiff, Nat.reduceAdd, Nat.reduceSub, Nat.reduceMul, Nat.reduceLT, Nat.reduceLeDiff, Nat.reduceBEq, Nat.reduceDiv, Nat.reduceMod, Int.reduceToNat, Int.reduceNeg, Int.reduceAdd, Int.reduceSub, Int.reduceMul, Int.reduceEq, Int.reduceNe, Int.reduceLT, Int.reduceLE, Int.reduceGT, Int.reduceGE, f9, f15, f16, f18, f27, f246, f247, hNw]
                  exact ⟨W.ord.length - (j + 1), M4, by omega, Mem.le_refl _, j + 1, by omega, rfl, by simp, rfl⟩
              · simp -implicitDefEqProofs (maxSteps := 1000000) (disch := omega) only [↓xsP, ↓vc_seq, xsQ, xsT, xsR, xsD, ↓reduceIte, reduceCtorEq, eq_self, ne_eq, imp_self, forall_const, Nat.reduceEqDiff, Nat.reduceAdd, Nat.reduceSub, Nat.reduceMul, Nat.reduceLT, Nat.reduceLeDiff, Nat.reduceBEq, Nat.reduceDiv, Nat.reduceMod, Int.reduceToNat, Int.reduceNeg, Int.reduceAdd, Int.reduceSub, Int.reduceMul, Int.reduceEq, Int.reduceNe, Int.reduceLT, Int.reduceLE, Int.reduceGT, Int.reduceGE, f9, f15, f16, f18, f27, f246, f247]
          · clear f9 f15 f16 f18 f27
            rintro fr M4 ⟨rfl, f9, f15, f18, f27⟩
            simp -implicitDefEqProofs (maxSteps := 1000000) (disch := omega) only [↓xsP, ↓vc_seq, xsQ, xsT, xsR, xsD, ↓reduceIte, reduceCtorEq, eq_self, ne_eq, imp_self, forall_const, Nat.reduceEqDiff, Nat.reduceAdd, Nat.reduceSub, Nat.reduceMul, Nat.reduceLT, Nat.reduceLeDiff, Nat.reduceBEq, Nat.reduceDiv, Nat.reduceMod, Int.reduceToNat, Int.reduceNeg, Int.reduceAdd, Int.reduceSub, Int.reduceMul, Int.reduceEq, Int.reduceNe, Int.reduceLT, Int.reduceLE, Int.reduceGT, Int.reduceGE, f9, f15, f18, f27]
            have hleF : M.le M4 := fun k bk hk => I.win.le _ _ (I.loc.le _ _ hk)
            refine gI_f (fun hg => ?_) (fun hg => ?_)
            · have hg' : good = true := by cases good with | true => rfl | false => cases hg
              obtain ⟨T, hT⟩ := I.inv hg'
              have hR := hT.right hasc
              have hsm : Small h := ⟨by omega, fun e he => by have := I.lp e he; omega⟩
              have hlen : ((h.length : Int) > 200) = False := eq_false (by omega)
              obtain ⟨jf, hMf, hBf, rfl⟩ := I.loc.xf
              have hNf := I.win.le _ _ hBf
              rcases I.loc.xh with ⟨eh, rfl⟩ | ⟨ih, rs, hMi, hBi, hrs, rfl⟩
              · simp -implicitDefEqProofs (maxSteps := 1000000) (disch := omega) only [↓xsP, ↓vc_seq, xsQ, xsT, xsR, xsD, ↓reduceIte, reduceCtorEq, eq_self, ne_eq, imp_self, forall_const, Nat.reduceEqDiff, Nat.reduceAdd, Nat.reduceSub, Nat.reduceMul, Nat.reduceLT, Nat.reduceLeDiff, Nat.reduceBEq, Nat.reduceDiv, Nat.reduceMod, Int.reduceToNat, Int.reduceNeg, Int.reduceAdd, Int.reduceSub, Int.reduceMul, Int.reduceEq, Int.reduceNe, Int.reduceLT, Int.reduceLE, Int.reduceGT, Int.reduceGE, f9, f15, f18, f27, hg]
                refine call_of (XCalls.rd (.cons (.inr ⟨_, _, rfl, rfl, Rd.ms hNf (by simp) (by simp)⟩) (.cons (.inr ⟨_, _, rfl, rfl, Rd.nils _⟩) (.cons (.inl ⟨rfl, Fast.sl _⟩) .nil))) (oright_spec b0 [] W.ord (by omega) (by rw [← eh]; exact hsm) (by simp) (by omega) _)) ?_
                rw [← eh, hR]
                simp -implicitDefEqProofs (maxSteps := 1000000) (disch := omega) only [↓xsP, ↓vc_seq, xsQ, xsT, xsR, xsD, ↓reduceIte, reduceCtorEq, eq_self, ne_eq, imp_self, forall_const, Nat.reduceEqDiff, Nat.reduceAdd, Nat.reduceSub, Nat.reduceMul, Nat.reduceLT, Nat.reduceLeDiff, Nat.reduceBEq, Nat.reduceDiv, Nat.reduceMod, Int.reduceToNat, Int.reduceNeg, Int.reduceAdd, Int.reduceSub, Int.reduceMul, Int.reduceEq, Int.reduceNe, Int.reduceLT, Int.reduceLE, Int.reduceGT, Int.reduceGE, f9, f15, f18, f27, hg]
                refine call_of (awake21_spec _) ?_
                simp -implicitDefEqProofs (maxSteps := 1000000) (disch := omega) only [↓xsP, ↓vc_seq, xsQ, xsT, xsR, xsD, ↓reduceIte, reduceCtorEq, eq_self, ne_eq, imp_self, forall_const, Nat.reduceEqDiff, Nat.reduceAdd, Nat.reduceSub, Nat.reduceMul, Nat.reduceLT, Nat.reduceLeDiff, Nat.reduceBEq, Nat.reduceDiv, Nat.reduceMod, Int.reduceToNat, Int.reduceNeg, Int.reduceAdd, Int.reduceSub, Int.reduceMul, Int.reduceEq, Int.reduceNe, Int.reduceLT, Int.reduceLE, Int.reduceGT, Int.reduceGE]
                exact fin_ok hleF ⟨rfl, rfl⟩
              · have hNi := I.win.le _ _ hBi
                simp -implicitDefEqProofs (maxSteps := 1000000) (disch := omega) only [↓xsP, ↓vc_seq, xsQ, xsT, xsR, xsD, ↓reduceIte, reduceCtorEq, eq_self, ne_eq, imp_self, forall_const, Nat.reduceEqDiff, Nat.reduceAdd, Nat.reduceSub, Nat.reduceMul, Nat.reduceLT, Nat.reduceLeDiff, Nat.reduceBEq, Nat.reduceDiv, Nat.reduceMod, Int.reduceToNat, Int.reduceNeg, Int.reduceAdd, Int.reduceSub, Int.reduceMul, Int.reduceEq, Int.reduceNe, Int.reduceLT, Int.reduceLE, Int.reduceGT, Int.reduceGE, f9, f15, f18, f27, hg, hlen]
                refine callI_gs (GStep.keep' hNi hrs) ?_
                have hNf' : (M4.set ih (.cells 65 (h.map Evt.row) (h.map Evt.row).length)) jf = some (.cells 26 (b0.map Pr.row) b0.length) := by
                  rw [Mem.set_ne _ _ _ _ (ne_ty hNi hNf (by decide))]
                  exact hNf
                have hleG : M.le (M4.set ih (.cells 65 (h.map Evt.row) (h.map Evt.row).length)) := fun k bk hk => by
                  rw [Mem.set_ne _ _ _ _ (fun e => by rw [← e, hMi] at hk; cases hk)]
                  exact hleF _ _ hk
                refine call_of (XCalls.rd (.cons (.inr ⟨_, _, rfl, rfl, Rd.ms hNf' (by simp) (by simp)⟩) (.cons (.inr ⟨_, _, rfl, rfl, Rd.ms (Mem.set_eq _ _ _) (Nat.le_refl _) (by simp)⟩) (.cons (.inl ⟨rfl, Fast.sl _⟩) .nil))) (oright_spec b0 h W.ord (by omega) hsm (by omega) (by omega) _)) ?_
                rw [hR]
                simp -implicitDefEqProofs (maxSteps := 1000000) (disch := omega) only [↓xsP, ↓vc_seq, xsQ, xsT, xsR, xsD, ↓reduceIte, reduceCtorEq, eq_self, ne_eq, imp_self, forall_const, Nat.reduceEqDiff, Nat.reduceAdd, Nat.reduceSub, Nat.reduceMul, Nat.reduceLT, Nat.reduceLeDiff, Nat.reduceBEq, Nat.reduceDiv, Nat.reduceMod, Int.reduceToNat, Int.reduceNeg, Int.reduceAdd, Int.reduceSub, Int.reduceMul, Int.reduceEq, Int.reduceNe, Int.reduceLT, Int.reduceLE, Int.reduceGT, Int.reduceGE, f9, f15, f18, f27, hg]
                refine call_of (awake21_spec _) ?_
                simp -implicitDefEqProofs (maxSteps := 1000000) (disch := omega) only [↓xsP, ↓vc_seq, xsQ, xsT, xsR, xsD, ↓reduceIte, reduceCtorEq, eq_self, ne_eq, imp_self, forall_const, Nat.reduceEqDiff, Nat.reduceAdd, Nat.reduceSub, Nat.reduceMul, Nat.reduceLT, Nat.reduceLeDiff, Nat.reduceBEq, Nat.reduceDiv, Nat.reduceMod, Int.reduceToNat, Int.reduceNeg, Int.reduceAdd, Int.reduceSub, Int.reduceMul, Int.reduceEq, Int.reduceNe, Int.reduceLT, Int.reduceLE, Int.reduceGT, Int.reduceGE]
                rw [List.length_map] at hleG
                exact fin_ok hleG ⟨rfl, rfl⟩
            · simp -implicitDefEqProofs (maxSteps := 1000000) (disch := omega) only [↓xsP, ↓vc_seq, xsQ, xsT, xsR, xsD, ↓reduceIte, reduceCtorEq, eq_self, ne_eq, imp_self, forall_const, Nat.reduceEqDiff, Nat.reduceAdd, Nat.reduceSub, Nat.reduceMul, Nat.reduceLT, Nat.reduceLeDiff, Nat.reduceBEq, Nat.reduceDiv, Nat.reduceMod, Int.reduceToNat, Int.reduceNeg, Int.reduceAdd, Int.reduceSub, Int.reduceMul, Int.reduceEq, Int.reduceNe, Int.reduceLT, Int.reduceLE, Int.reduceGT, Int.reduceGE, f9, f15, f18, f27, hg]
              refine call_of (awake21_spec _) ?_
              simp -implicitDefEqProofs (maxSteps := 1000000) (disch := omega) only [↓xsP, ↓vc_seq, xsQ, xsT, xsR, xsD, ↓reduceIte, reduceCtorEq, eq_self, ne_eq, imp_self, forall_const, Nat.reduceEqDiff, Nat.reduceAdd, Nat.reduceSub, Nat.reduceMul, Nat.reduceLT, Nat.reduceLeDiff, Nat.reduceBEq, Nat.reduceDiv, Nat.reduceMod, Int.reduceToNat, Int.reduceNeg, Int.reduceAdd, Int.reduceSub, Int.reduceMul, Int.reduceEq, Int.reduceNe, Int.reduceLT, Int.reduceLE, Int.reduceGT, Int.reduceGE]
              exact fin_ok hleF ⟨rfl, rfl⟩
end Go.X
