/- What is there at a key: plain laws of leaves as maps. -/
import Derived.Test.YthgppaccdlcaiaaTd
set_option linter.unusedVariables false
namespace Go.X

/-- What is there at a key. -/
def look : List Pr → Int → Option Int
  | [], _ => none
  | p :: r, k => if p.key = k then some p.val else look r k
theorem look_app (A B : List Pr) (k : Int) (h : ∀ a ∈ A, a.key ≠ k) : look (A ++ B) k = look B k := by
  induction A with
  | nil => rfl
  | cons x r ih =>
    rw [List.cons_append, look, if_neg (h x (by simp)), ih fun a ha => h a (by simp [ha])]
theorem look_none {l : List Pr} {k : Int} (h : ∀ a ∈ l, a.key ≠ k) : look l k = none := by
  have := look_app l [] k h
  simpa [look] using this
theorem look_mid {A C : List Pr} {x y : Pr} {k : Int} (hk : y.key = x.key) (h : k ≠ x.key) : look (A ++ y :: C) k = look (A ++ C) k := by
  induction A with
  | nil => rw [List.nil_append, look, if_neg (by omega)]; rfl
  | cons z r ih =>
    rw [List.cons_append, List.cons_append, look, look, ih]
theorem Out.look {A C l : List Pr} {k : Int} (h : Out k A C l) : look l k = none := by
  obtain ⟨rfl, h1, h2⟩ := h
  refine look_none fun a ha => ?_
  rcases List.mem_append.1 ha with h' | h'
  · have := h1 a h'; omega
  · have := h2 a h'; omega
theorem Inn.look {A C l : List Pr} {x : Pr} {k : Int} (h : Inn k A x C l) : look l k = some x.val := by
  obtain ⟨rfl, h1, h2, h3⟩ := h
  rw [look_app _ _ _ fun a ha => by have := h2 a ha; omega, Go.X.look, if_pos h1]
def lookA (k : Int) : Option Int → Ans
  | none => ans0
  | some v => ⟨0, true, ⟨k, v⟩, 0, []⟩
theorem ansAt_look {l : List Pr} (h : Asc l) (k : Int) : ansAt l (place l k) = lookA k (look l k) := by
  rcases forms k l h with ⟨A, C, hO⟩ | ⟨A, x, C, hI⟩
  · rw [hO.place, hO.look]; rfl
  · rw [hI.place, hI.look, ansAt, if_pos (by omega), Int.toNat_natCast, hI.get]
    have := hI.2.1
    subst this
    rfl
/-- What an operation makes of what is there at its key. -/
def upd1 (op : Opn) (o : Option Int) : Option Int :=
  if op.kind = 1 then some op.val else if op.kind = 2 then (match o with | none => some op.val | some v => some v) else if op.kind = 3 then none else o
theorem oneL_look {l : List Pr} {op : Opn} (h : Asc l) (h1 : 1 ≤ op.kind) (k : Int) : look (oneL l op) k = if k = op.key then upd1 op (look l k) else look l k := by
  rcases one_forms op h h1 with ⟨A, C, hO, hc⟩ | ⟨A, x, C, hI, hc⟩
  · rcases hc with ⟨hk, hm⟩ | ⟨hk, hm⟩
    · by_cases e : k = op.key
      · subst e
        have hI : Inn op.key A ⟨op.key, op.val⟩ C (oneL l op) := ⟨hm, rfl, hO.2.1, hO.2.2⟩
        rw [if_pos rfl, hI.look, hO.look, upd1]
        rcases hk with hk | hk
        · rw [if_pos hk]
        · rw [if_neg (by omega), if_pos hk]
      · rw [if_neg e, hm, look_mid (x := ⟨op.key, op.val⟩) rfl e, ← hO.1]
    · by_cases e : k = op.key
      · subst e
        rw [if_pos rfl, hm, hO.look, upd1, if_neg (by omega), if_neg (by omega)]
        split <;> rfl
      · rw [if_neg e, hm]
  · rcases hc with ⟨hk, hm⟩ | ⟨hk, hm⟩ | ⟨hk, hm⟩
    · by_cases e : k = op.key
      · subst e
        have hI2 : Inn op.key A ⟨op.key, op.val⟩ C (oneL l op) := ⟨hm, rfl, hI.2.2.1, hI.2.2.2⟩
        rw [if_pos rfl, hI2.look, hI.look, upd1, if_pos hk]
      · have hx := hI.2.1
        rw [if_neg e, hm, look_mid (x := ⟨op.key, op.val⟩) rfl e, hI.1, look_mid (x := x) rfl (by omega)]
    · have hx := hI.2.1
      by_cases e : k = op.key
      · subst e
        have hO : Out op.key A C (oneL l op) := ⟨hm, hI.2.2.1, hI.2.2.2⟩
        rw [if_pos rfl, hO.look, hI.look, upd1, if_neg (by omega), if_neg (by omega), if_pos hk]
      · rw [if_neg e, hm, hI.1, look_mid (x := x) rfl (by omega)]
    · by_cases e : k = op.key
      · subst e
        rw [if_pos rfl, hm, hI.look, upd1, if_neg (by omega)]
        rcases hk with hk | hk
        · rw [if_pos hk]
        · rw [if_neg (by omega), if_neg (by omega)]
      · rw [if_neg e, hm]
theorem look_head {x : Pr} {r : List Pr} (h : Asc (x :: r)) {k : Int} (hk : k < x.key) : look (x :: r) k = none := by
  refine look_none fun a ha => ?_
  rcases List.mem_cons.1 ha with rfl | h'
  · omega
  · have := (List.pairwise_cons.1 h).1 a h'
    omega
theorem look_ext : ∀ {l m : List Pr}, Asc l → Asc m → (∀ k, look l k = look m k) → l = m
  | [], [], _, _, _ => rfl
  | [], y :: s, _, _, h => by have := h y.key; rw [look, look, if_pos rfl] at this; cases this
  | x :: r, [], _, _, h => by have := h x.key; rw [look, look, if_pos rfl] at this; cases this
  | x :: r, y :: s, hl, hm, h => by
    have hxy : x.key = y.key := by
      rcases Int.lt_trichotomy x.key y.key with h' | h' | h'
      · have := h x.key
        rw [look_head hm h', look, if_pos rfl] at this
        cases this
      · exact h'
      · have := h y.key
        rw [look_head hl h', look, if_pos rfl] at this
        cases this
    have hv : x.val = y.val := by
      have := h x.key
      rw [look, look, if_pos rfl, if_pos hxy.symm] at this
      exact Option.some.inj this
    have e : x = y := by
      cases x; cases y
      simp at hxy hv
      rw [hxy, hv]
    subst e
    have hr : r = s := look_ext (List.pairwise_cons.1 hl).2 (List.pairwise_cons.1 hm).2 fun k => by
      have hk := h k
      rw [look, look] at hk
      by_cases hxk : x.key = k
      · subst hxk
        rw [look_none fun a ha => by have := (List.pairwise_cons.1 hl).1 a ha; omega, look_none fun a ha => by have := (List.pairwise_cons.1 hm).1 a ha; omega]
      · rw [if_neg hxk, if_neg hxk] at hk
        exact hk
    rw [hr]

theorem doL_asc {l : List Pr} (op : Opn) (h : Asc l) : Asc (doL l op) := by
  by_cases hm : mayOpB op = true
  · have hk := may_kind hm
    by_cases h3 : op.kind ≤ 3
    · rw [doL_upd h hm h3]
      exact (upd_law h hk.1 h3).1
    · rw [doL_read (by omega)]
      exact h
  · have : okOp l op = false := by
      rw [okOp]
      simp at hm
      rw [hm, Bool.and_false]
    rw [doL, if_pos this]
    exact h
theorem doL_look {l : List Pr} {op : Opn} (h : Asc l) (hm : mayOpB op = true) (hk : op.kind ≤ 4) (k : Int) : look (doL l op) k = if k = op.key then upd1 op (look l k) else look l k := by
  have h1 := (may_kind hm).1
  by_cases h3 : op.kind ≤ 3
  · rw [doL_upd h hm h3, oneL_look h h1]
  · have e : upd1 op (look l k) = look l k := by rw [upd1.eq_def, if_neg (show ¬ op.kind = 1 by omega), if_neg (show ¬ op.kind = 2 by omega), if_neg (show ¬ op.kind = 3 by omega)]
    rw [doL_read (by omega), e]
    split <;> rfl
theorem doA_look {l : List Pr} {op : Opn} (h : Asc l) (hm : mayOpB op = true) (hk : op.kind ≤ 4) : doA l op = lookA op.key (look l op.key) := by
  rw [doA_one h hm hk, ansAt_look h]
/-- Operations of unlike keys go by one another. -/
theorem do_swap {l : List Pr} {a b : Opn} (h : Asc l) (ha : mayOpB a = true) (ha4 : a.kind ≤ 4) (hb : mayOpB b = true) (hb4 : b.kind ≤ 4) (hne : a.key ≠ b.key) :
    doL (doL l a) b = doL (doL l b) a ∧ doA (doL l a) b = doA l b ∧ doA (doL l b) a = doA l a := by
  have hA := doL_asc a h
  have hB := doL_asc b h
  refine ⟨look_ext (doL_asc b hA) (doL_asc a hB) fun k => ?_, ?_, ?_⟩
  · rw [doL_look hA hb hb4, doL_look h ha ha4, doL_look hB ha ha4, doL_look h hb hb4]
    by_cases e1 : k = a.key
    · rw [if_neg (show ¬ k = b.key by omega), if_pos e1, if_pos e1, if_neg (by omega)]
    · by_cases e2 : k = b.key
      · rw [if_pos e2, if_neg e1, if_neg e1, if_pos e2]
      · rw [if_neg e2, if_neg e1, if_neg e1, if_neg e2]
  · rw [doA_look hA hb hb4, doA_look h hb hb4, doL_look h ha ha4, if_neg (by omega)]
  · rw [doA_look hB ha ha4, doA_look h ha ha4, doL_look h hb hb4, if_neg (by omega)]
end Go.X
