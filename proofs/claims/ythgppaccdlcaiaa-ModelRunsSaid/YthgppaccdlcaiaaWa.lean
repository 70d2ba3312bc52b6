/- How a law's arguments, as the statements read them, are abstract values whose cells are never written. -/
import Derived.Test.YthgppaccdlcaiaaXw
import Derived.SizedLaws
import Derived.ChangeSlices
set_option linter.unusedVariables false
set_option linter.unusedSimpArgs false
namespace Go.X
open Go.RowKit Go.ChangeShapes

/-- The ghost at a call's beginning: all cells that are there stay as they are. -/
def g0 (P : Program) (w : World) : Gh := ⟨fun _ => none, fun b o => ∃ v, w.cell? ⟨b, o, none⟩ = some v, w, P, fun _ => False⟩
def mem0 : Mem := fun _ => none
theorem rel0 (P : Program) (w : World) : Rel (g0 P w) mem0 w where
  blk id b h := by cases h
  inj i j bi bj h := by cases h
  lt id x h := by cases h
  fz b o h := h
  fin := ⟨0, fun id _ => ⟨rfl, rfl, fun h => h⟩⟩
  below := Below.refl _ _

def Opens (P : Program) (t : TypeId) (R : List Lf → Prop) : Prop :=
  ∀ (H : Type) (enc : TypeId × Value → H) (w : World) (spare : Nat → Bool) (held : Bool) (fuel : Nat) (cs : List Value) (x : DataW H × List MemPlace),
    DataW.trod enc P w 0 spare held fuel t cs = some x → (∀ n ∈ x.1.weights P t, n ≤ reachBytes) → ∃ ls, ConcL (g0 P w) w ls cs ∧ R ls

theorem Opens.mono {P : Program} {t : TypeId} {R R' : List Lf → Prop} (h : Opens P t R) (hr : ∀ ls, R ls → R' ls) : Opens P t R' :=
  fun H enc w spare held fuel cs x ht hw => by
    obtain ⟨ls, h1, h2⟩ := h H enc w spare held fuel cs x ht hw
    exact ⟨ls, h1, hr _ h2⟩
theorem opens_int {P : Program} {t : TypeId} {k : IntKind} (ht : P.underlying t = some (.int k)) : Opens P t fun ls => ∃ n, ls = [.int k n] ∧ (Lit.int k n).wf = true :=
  fun H enc w spare held fuel cs x h hw => by
    obtain ⟨n, rfl, _, hn⟩ := DataW.trod_int ht h
    exact ⟨[.int k n], .cons (.int k n) (.nil _ _), n, rfl, hn⟩
theorem opens_bool {P : Program} {t : TypeId} (ht : P.underlying t = some .bool) : Opens P t fun ls => ∃ b, ls = [.bool b] :=
  fun H enc w spare held fuel cs x h hw => by
    obtain ⟨b, rfl, _⟩ := DataW.trod_bool ht h
    exact ⟨[.bool b], .cons (.bool b) (.nil _ _), b, rfl⟩

/-- Fields that lie one behind the other. -/
def Contig (P : Program) : List Field → Nat → Nat → Prop
  | [], o, n => o = n
  | f :: r, o, n => f.offset = o ∧ Contig P r (o + P.cellsOf f.type) n
instance (P : Program) : ∀ (fs : List Field) (o n : Nat), Decidable (Contig P fs o n)
  | [], o, n => inferInstanceAs (Decidable (o = n))
  | f :: r, o, n => @instDecidableAnd _ _ _ (instDecidableContig P r _ n)
def OpensAll (P : Program) : List Field → List (List Lf → Prop) → Prop
  | [], [] => True
  | f :: fs, R :: Rs => Opens P f.type R ∧ OpensAll P fs Rs
  | _, _ => False
def RsAll : List (List Lf → Prop) → List Lf → Prop
  | [], ls => ls = []
  | R :: Rs, ls => ∃ a b, ls = a ++ b ∧ R a ∧ RsAll Rs b

theorem Contig.le {P : Program} : ∀ {fs : List Field} {o n : Nat}, Contig P fs o n → o ≤ n
  | [], o, n, h => Nat.le_of_eq h
  | f :: r, o, n, h => by have := Contig.le h.2; omega
theorem open_fields {H : Type} {enc : TypeId × Value → H} {P : Program} {w : World} {spare : Nat → Bool} {held : Bool} {fuel : Nat} {cs : List Value} :
    ∀ (fs : List Field) (Rs : List (List Lf → Prop)) (xs : List (DataW H × List MemPlace)) (o : Nat), Contig P fs o cs.length → OpensAll P fs Rs → xs.length = fs.length →
      (∀ (i : Nat) (f : Field), fs[i]? = some f → DataW.trod enc P w 0 spare held fuel f.type ((cs.drop f.offset).take (P.cellsOf f.type)) = xs[i]?) →
      (∀ (i : Nat) (f : Field) (y : DataW H × List MemPlace), fs[i]? = some f → xs[i]? = some y → ∀ n ∈ y.1.weights P f.type, n ≤ reachBytes) →
      ∃ ls, ConcL (g0 P w) w ls (cs.drop o) ∧ RsAll Rs ls
  | [], [], xs, o, hc, ho, hl, ht, hw => by
    refine ⟨[], ?_, rfl⟩
    rw [hc, List.drop_length]
    exact .nil _ _
  | [], R :: Rs, xs, o, hc, ho, hl, ht, hw => ho.elim
  | f :: fs, [], xs, o, hc, ho, hl, ht, hw => ho.elim
  | f :: fs, R :: Rs, [], o, hc, ho, hl, ht, hw => by simp at hl
  | f :: fs, R :: Rs, y :: xs, o, hc, ho, hl, ht, hw => by
    have h0 := ht 0 f rfl
    simp only [List.getElem?_cons_zero] at h0
    obtain ⟨a, ha, hra⟩ := ho.1 H enc w spare held fuel _ y h0 (hw 0 f y rfl rfl)
    obtain ⟨b, hb, hrb⟩ := open_fields fs Rs xs (o + P.cellsOf f.type) hc.2 ho.2 (by simpa using hl) (fun i f' hf => by simpa using ht (i + 1) f' (by simpa using hf)) (fun i f' y' hf hy => hw (i + 1) f' y' (by simpa using hf) (by simpa using hy))
    refine ⟨a ++ b, ?_, a, b, rfl, hra, hrb⟩
    have : cs.drop o = (cs.drop f.offset).take (P.cellsOf f.type) ++ cs.drop (o + P.cellsOf f.type) := by
      rw [hc.1, ← List.drop_drop, List.take_append_drop]
    rw [this]
    exact ha.append hb

theorem opens_struct {P : Program} {t : TypeId} {fs : Array Field} (ht : P.underlying t = some (.struct fs)) (Rs : List (List Lf → Prop)) (hc : Contig P fs.toList 0 (P.cellsOf t)) (ho : OpensAll P fs.toList Rs) : Opens P t (RsAll Rs) :=
  fun H enc w spare held fuel cs x h hw => by
    obtain ⟨xs, n, rfl, rfl, hl, hlen, hf⟩ := DataW.trod_struct ht h
    have := open_fields (enc := enc) (w := w) (spare := spare) (held := held) (fuel := n) (cs := cs) fs.toList Rs xs 0 (by rw [hl]; exact hc) ho (by simpa using hlen) (fun i f hf' => hf i f (by simpa using hf')) (fun i f y hf' hy m hm => hw m (by
      simp only [DataW.weights, ht]
      refine DataW.weights_mem_each (j := i) (t := f.type) (d := y.1) ?_ ?_ m hm
      · rw [List.getElem?_map, hf']; rfl
      · rw [List.getElem?_map, hy]; rfl))
    simpa using this

theorem mem_weightsAll {H : Type} {P : Program} {e : TypeId} : ∀ {l : List (DataW H)} {d : DataW H}, d ∈ l → ∀ n ∈ d.weights P e, n ∈ DataW.weightsAll P e l
  | [], d, h, _, _ => by cases h
  | y :: r, d, h, n, hn => by
    simp only [DataW.weightsAll, List.mem_append]
    rcases List.mem_cons.1 h with rfl | h
    · exact .inl hn
    · exact .inr (mem_weightsAll h n hn)

theorem opens_slice {P : Program} {t e : TypeId} {R : List Lf → Prop} (ht : P.underlying t = some (.slice e)) (he : Opens P e R) (hpos : 0 < P.cellsOf e) :
    Opens P t fun ls => ∃ rows, ls = [.sl rows] ∧ (∀ r ∈ rows, R r) ∧ rows.length * P.bytesOf e ≤ reachBytes :=
  fun H enc w spare held fuel cs x h hw => by
    rcases DataW.trod_slice ht h with ⟨rfl, rfl⟩ | ⟨a, len, cap, elems, rest, n, rfl, rfl, rfl, hb, hlc, hcm, hel, hs, hsp, hns⟩
    · exact ⟨[.sl []], .cons .sl0 (.nil _ _), [], rfl, (fun r hr => by cases hr), by simp⟩
    · have hbytes : len * P.bytesOf e ≤ reachBytes := by
        have h1 : (elems.length + rest.length) * P.bytesOf e ≤ reachBytes := hw _ (by simp [DataW.weights, ht])
        have h2 : len * P.bytesOf e ≤ (elems.length + rest.length) * P.bytesOf e := Nat.mul_le_mul_right _ (by omega)
        omega
      by_cases h0 : len = 0
      · subst h0
        exact ⟨[.sl []], .cons .sl0 (.nil _ _), [], rfl, (fun r hr => by cases hr), by simp⟩
      · have each : ∀ i, i < len → ∃ ls cs', w.cells? 0 (a.add (i * P.cellsOf e)) (P.cellsOf e) = some cs' ∧ ConcL (g0 P w) w ls cs' ∧ R ls := fun i hi => by
          have h1 := hs i hi
          have hi' : i < elems.length := by omega
          rw [List.getElem?_eq_getElem hi', Option.bind_eq_some_iff] at h1
          obtain ⟨cs', h2, h3⟩ := h1
          obtain ⟨ls, h4, h5⟩ := he H enc w spare held n cs' _ h3 (fun m hm => hw m (by
            simp only [DataW.weights, ht, List.mem_cons, List.mem_append]
            refine .inr (.inl (mem_weightsAll (List.mem_map.2 ⟨_, List.getElem_mem hi', rfl⟩) m hm))))
          exact ⟨ls, cs', h2, h4, h5⟩
        have hspot : a.spot = none := by
          obtain ⟨ls, cs', h2, _, _⟩ := each 0 (by omega)
          have h3 := (World.cells?_some h2).2.2 0 hpos
          have hl := (World.cells?_some h2).2.1
          have e1 : (a.add (0 * P.cellsOf e)).add 0 = a := by simp [Addr.add]
          rw [e1] at h3
          have h4 : cs'[0]? = some cs'[0] := List.getElem?_eq_getElem (by omega)
          rw [h4] at h3
          cases hsp : a.spot with
          | none => rfl
          | some s =>
            unfold World.cell? at h3
            split at h3
            · rw [hsp] at h3; cases h3
            · cases h3
        obtain ⟨b, o, sp⟩ := a
        simp only at hspot
        subst hspot
        have each' : ∀ i, ∃ ls, i < len → ∃ cs', w.cells? 0 ((⟨b, o, none⟩ : Addr).add (i * P.cellsOf e)) (P.cellsOf e) = some cs' ∧ ConcL (g0 P w) w ls cs' ∧ R ls := fun i => by
          by_cases hi : i < len
          · obtain ⟨ls, cs', h1⟩ := each i hi
            exact ⟨ls, fun _ => ⟨cs', h1⟩⟩
          · exact ⟨[], fun h => absurd h hi⟩
        let f : Nat → List Lf := fun i => Classical.choose (each' i)
        have hf : ∀ i, i < len → ∃ cs', w.cells? 0 ((⟨b, o, none⟩ : Addr).add (i * P.cellsOf e)) (P.cellsOf e) = some cs' ∧ ConcL (g0 P w) w (f i) cs' ∧ R (f i) := fun i hi => Classical.choose_spec (each' i) hi
        have hcell : ∀ i j, i < len → j < P.cellsOf e → ∃ v x, w.cell? ⟨b, o + (i * P.cellsOf e + j), none⟩ = some v ∧ (f i)[j]? = some x ∧ Conc (g0 P w) w x v := fun i j hi hj => by
          obtain ⟨cs', h1, h2, h3⟩ := hf i hi
          obtain ⟨_, hl, hc⟩ := World.cells?_some h1
          have h4 := hc j hj
          rw [addr_add, addr_add, Nat.add_assoc] at h4
          have hj' : j < cs'.length := by omega
          have hj2 : j < (f i).length := by rw [h2.1]; exact hj'
          refine ⟨cs'[j], (f i)[j], by rw [h4]; exact List.getElem?_eq_getElem hj', List.getElem?_eq_getElem hj2, h2.2 j _ _ (List.getElem?_eq_getElem hj2) (List.getElem?_eq_getElem hj')⟩
        refine ⟨[.sl ((List.range len).map f)], .cons ?_ (.nil _ _), _, rfl, (fun r hr => ?_), by simpa using hbytes⟩
        · have hln : ((List.range len).map f).length = len := by simp
          have hc := Conc.sl (g := g0 P w) (w := w) (rows := (List.range len).map f) (b := b) (o := o) (sz := P.cellsOf e) (cap := cap) (fun k => (w.cell? ⟨b, o + k, none⟩).getD undef) ?_ (by simpa using hlc) ?_ ?_
          · rw [hln] at hc
            exact hc
          · intro r hr
            obtain ⟨i, hi, rfl⟩ := List.mem_map.1 hr
            obtain ⟨cs', h1, h2, h3⟩ := hf i (by simpa using hi)
            rw [h2.1, (World.cells?_some h1).2.1]
          · intro k hk
            rw [hln] at hk
            have hi : k / P.cellsOf e < len := (Nat.div_lt_iff_lt_mul hpos).2 hk
            have hj : k % P.cellsOf e < P.cellsOf e := Nat.mod_lt _ hpos
            obtain ⟨v, x, h1, h2, h3⟩ := hcell _ _ hi hj
            rw [Nat.div_add_mod'] at h1
            rw [h1]
            exact ⟨⟨v, h1⟩, rfl⟩
          · intro i j r x hr hx
            rw [List.getElem?_map] at hr
            obtain ⟨i', hi', rfl⟩ := Option.map_eq_some_iff.1 hr
            have hi2 : i < len := by
              have := (List.getElem?_eq_some_iff.1 hi').1
              simpa using this
            have e1 : i' = i := by
              rw [List.getElem?_range hi2] at hi'
              simpa using hi'.symm
            subst e1
            obtain ⟨cs', h1, h2, h3⟩ := hf i' hi2
            have hj : j < P.cellsOf e := by
              have := (List.getElem?_eq_some_iff.1 hx).1
              rw [h2.1, (World.cells?_some h1).2.1] at this
              exact this
            obtain ⟨v, y, k1, k2, k3⟩ := hcell _ _ hi2 hj
            rw [hx, Option.some.injEq] at k2
            subst k2
            rw [k1]
            exact k3
        · obtain ⟨i, hi, rfl⟩ := List.mem_map.1 hr
          obtain ⟨cs', h1, h2, h3⟩ := hf i (by simpa using hi)
          exact h3
end Go.X
