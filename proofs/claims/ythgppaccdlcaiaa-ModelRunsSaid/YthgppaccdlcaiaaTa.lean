/- Plain laws of leaves: where a key stands, and what an operation on it makes. -/
import Derived.Test.YthgppaccdlcaiaaVe
set_option linter.unusedVariables false
set_option linter.unusedSimpArgs false
namespace Go.X

def Asc (l : List Pr) : Prop := l.Pairwise fun a b => a.key < b.key
theorem rises_cons {x y : Pr} {r : List Pr} : Rises (x :: y :: r) ↔ x.key < y.key ∧ Rises (y :: r) := by
  constructor
  · intro h
    refine ⟨by simpa using h 1 (Nat.le_refl _) (by simp), fun j h1 h2 => ?_⟩
    have := h (j + 1) (by omega) (by simpa using h2)
    cases j with
    | zero => omega
    | succ j => simpa using this
  · rintro ⟨h, hr⟩ j h1 h2
    cases j with
    | zero => omega
    | succ j =>
      cases j with
      | zero => simpa using h
      | succ j => simpa using hr (j + 1) (by omega) (by simpa using h2)
theorem rises_asc : ∀ (l : List Pr), Rises l ↔ Asc l
  | [] => ⟨fun _ => List.Pairwise.nil, fun _ j h1 h2 => by simp at h2⟩
  | [x] => ⟨fun _ => List.pairwise_singleton _ _, fun _ j h1 h2 => by simp at h2; omega⟩
  | x :: y :: r => by
    rw [rises_cons, rises_asc (y :: r)]
    constructor
    · rintro ⟨h, hr⟩
      refine List.pairwise_cons.2 ⟨fun b hb => ?_, hr⟩
      rcases List.mem_cons.1 hb with rfl | hb
      · exact h
      · have := (List.pairwise_cons.1 hr).1 b hb
        omega
    · intro hr
      have h2 := List.pairwise_cons.1 hr
      exact ⟨h2.1 y (by simp), h2.2⟩

def Out (k : Int) (A C l : List Pr) : Prop := l = A ++ C ∧ (∀ a ∈ A, a.key < k) ∧ ∀ c ∈ C, k < c.key
def Inn (k : Int) (A : List Pr) (x : Pr) (C l : List Pr) : Prop := l = A ++ x :: C ∧ x.key = k ∧ (∀ a ∈ A, a.key < k) ∧ ∀ c ∈ C, k < c.key
theorem forms (k : Int) : ∀ (l : List Pr), Asc l → (∃ A C, Out k A C l) ∨ ∃ A x C, Inn k A x C l
  | [], _ => .inl ⟨[], [], rfl, (fun a h => by cases h), (fun a h => by cases h)⟩
  | x :: r, h => by
    obtain ⟨h1, h2⟩ := List.pairwise_cons.1 h
    by_cases hx : x.key < k
    · rcases forms k r h2 with ⟨A, C, rfl, ha, hc⟩ | ⟨A, y, C, rfl, hy, ha, hc⟩
      · exact .inl ⟨x :: A, C, rfl, (fun a h => by rcases List.mem_cons.1 h with rfl | h; exact hx; exact ha a h), hc⟩
      · exact .inr ⟨x :: A, y, C, rfl, hy, (fun a h => by rcases List.mem_cons.1 h with rfl | h; exact hx; exact ha a h), hc⟩
    · by_cases he : x.key = k
      · exact .inr ⟨[], x, r, rfl, he, (fun a h => by cases h), fun c hc => by have := h1 c hc; omega⟩
      · refine .inl ⟨[], x :: r, rfl, (fun a h => by cases h), fun c hc => ?_⟩
        rcases List.mem_cons.1 hc with rfl | hc
        · omega
        · have := h1 c hc
          omega
theorem asc_app {A C : List Pr} {p : Pr} {k : Int} (h : Asc (A ++ C)) (ha : ∀ a ∈ A, a.key < p.key) (hc : ∀ c ∈ C, p.key < c.key) : Asc (A ++ p :: C) := by
  rw [Asc, List.pairwise_append] at h ⊢
  refine ⟨h.1, List.pairwise_cons.2 ⟨hc, h.2.1⟩, fun a h1 b h2 => ?_⟩
  rcases List.mem_cons.1 h2 with rfl | h2
  · exact ha a h1
  · exact h.2.2 a h1 b h2
theorem asc_del {A C : List Pr} {p : Pr} (h : Asc (A ++ p :: C)) : Asc (A ++ C) := by
  rw [Asc, List.pairwise_append] at h ⊢
  exact ⟨h.1, (List.pairwise_cons.1 h.2.1).2, fun a h1 b h2 => h.2.2 a h1 b (List.mem_cons_of_mem _ h2)⟩

theorem wat_app {k : Int} {B : List Pr} : ∀ {A : List Pr}, (∀ a ∈ A, a.key < k) → wat k (A ++ B) = A.length + wat k B
  | [], _ => by simp
  | a :: A, h => by
    simp only [List.cons_append, wat, if_pos (h a (by simp)), List.length_cons]
    rw [wat_app fun b hb => h b (by simp [hb])]
    omega
theorem wat_ge {k : Int} {B : List Pr} (h : ∀ b ∈ B, k ≤ b.key) : wat k B = 0 := by
  cases B with
  | nil => rfl
  | cons b r => simp only [wat]; rw [if_neg (by have := h b (by simp); omega)]
theorem pidx_app {q : Pr → Bool} {B : List Pr} : ∀ {A : List Pr} (i : Nat), (∀ a ∈ A, q a = false) → pidx q (A ++ B) i = pidx q B (i + A.length)
  | [], i, _ => by simp
  | a :: A, i, h => by
    simp only [List.cons_append, pidx, h a (by simp), Bool.false_eq_true, if_false, List.length_cons]
    rw [pidx_app (i + 1) fun b hb => h b (by simp [hb])]
    congr 1
    omega
theorem pidx_none {q : Pr → Bool} : ∀ {B : List Pr} (i : Nat), (∀ b ∈ B, q b = false) → pidx q B i = -1
  | [], _, _ => rfl
  | b :: B, i, h => by
    simp only [pidx, h b (by simp), Bool.false_eq_true, if_false]
    exact pidx_none (i + 1) fun c hc => h c (by simp [hc])

section
variable {k : Int} {A C l : List Pr} {x : Pr}
theorem Out.place (h : Out k A C l) : place l k = -1 := by
  obtain ⟨rfl, ha, hc⟩ := h
  exact pidx_none 0 fun b hb => by
    rcases List.mem_append.1 hb with hb | hb
    · have := ha b hb; simp; omega
    · have := hc b hb; simp; omega
theorem Inn.place (h : Inn k A x C l) : place l k = A.length := by
  obtain ⟨rfl, hx, ha, hc⟩ := h
  rw [Go.X.place, pidx_app 0 fun b hb => by have := ha b hb; simp; omega]
  simp [pidx, hx]
theorem Inn.get (h : Inn k A x C l) : l.getD A.length default = x := by
  obtain ⟨rfl, _⟩ := h
  simp [List.getD_eq_getElem?_getD]
theorem Out.with (h : Out k A C l) (v : Int) : withL l ⟨k, v⟩ = A ++ ⟨k, v⟩ :: C := by
  obtain ⟨rfl, ha, hc⟩ := h
  have hw : wat k (A ++ C) = A.length := by rw [wat_app ha, wat_ge fun b hb => by have := hc b hb; omega]; rfl
  have hr : withRest (A ++ C) ⟨k, v⟩ = C := by
    unfold withRest
    simp only [hw, List.drop_left]
    cases C with
    | nil => rfl
    | cons c r =>
      have := hc c (by simp)
      simp only
      rw [if_neg (by omega)]
  rw [withL, hr]
  simp [hw]
theorem Inn.with (h : Inn k A x C l) (v : Int) : withL l ⟨k, v⟩ = A ++ ⟨k, v⟩ :: C := by
  obtain ⟨rfl, hx, ha, hc⟩ := h
  have hw : wat k (A ++ x :: C) = A.length := by
    rw [wat_app ha, wat_ge fun b hb => by
      rcases List.mem_cons.1 hb with rfl | hb
      · omega
      · have := hc b hb; omega]
    rfl
  have hr : withRest (A ++ x :: C) ⟨k, v⟩ = C := by
    unfold withRest
    simp only [hw, List.drop_left]
    rw [if_pos hx]
  rw [withL, hr]
  simp [hw]
theorem Inn.cut (h : Inn k A x C l) : l.take (Go.X.place l k).toNat ++ l.drop ((Go.X.place l k).toNat + 1) = A ++ C := by
  have hp := h.place
  obtain ⟨rfl, _⟩ := h
  rw [hp, Int.toNat_natCast]
  simp
end

/-- What an operation on a key makes of a leaf. -/
theorem one_forms {l : List Pr} (op : Opn) (h : Asc l) (h1 : 1 ≤ op.kind) :
    (∃ A C, Out op.key A C l ∧ ((op.kind = 1 ∨ op.kind = 2) ∧ oneL l op = A ++ ⟨op.key, op.val⟩ :: C ∨ 3 ≤ op.kind ∧ oneL l op = l)) ∨
    ∃ A x C, Inn op.key A x C l ∧ (op.kind = 1 ∧ oneL l op = A ++ ⟨op.key, op.val⟩ :: C ∨ op.kind = 3 ∧ oneL l op = A ++ C ∨ (op.kind = 2 ∨ 4 ≤ op.kind) ∧ oneL l op = l) := by
  rcases forms op.key l h with ⟨A, C, hO⟩ | ⟨A, x, C, hI⟩
  · refine .inl ⟨A, C, hO, ?_⟩
    have hp := hO.place
    by_cases h3 : 3 ≤ op.kind
    · exact .inr ⟨h3, by rw [oneL, if_neg (by omega), if_neg (by omega)]⟩
    · exact .inl ⟨by omega, by rw [oneL, if_pos (by omega), hO.with]⟩
  · refine .inr ⟨A, x, C, hI, ?_⟩
    have hp := hI.place
    by_cases k1 : op.kind = 1
    · exact .inl ⟨k1, by rw [oneL, if_pos (.inl k1), hI.with]⟩
    · by_cases k3 : op.kind = 3
      · exact .inr (.inl ⟨k3, by rw [oneL, if_neg (by omega), if_pos (by omega), hI.cut]⟩)
      · exact .inr (.inr ⟨by omega, by rw [oneL, if_neg (by omega), if_neg (by omega)]⟩)
end Go.X
