/- The program logic: regions whose order is drawn: any order comes to the same. -/
import Derived.Test.YthgppaccdlcaiaaXo
set_option linter.unusedVariables false
set_option linter.unusedSimpArgs false
set_option linter.unusedSectionVars false
namespace Go.X
open Go.RowKit

/-! ### other ids are kept free -/
def Gh.rsd (g : Gh) (r : Nat → Prop) : Gh := { g with res := r }
theorem Conc.rsd {g : Gh} {w : World} (r : Nat → Prop) {x : Lf} {v : Value} (h : Conc g w x v) : Conc (g.rsd r) w x v := by
  induction h with
  | int k n => exact .int k n
  | bool b => exact .bool b
  | str s => exact .str s
  | nilp => exact .nilp
  | ptr h => exact .ptr h
  | rp cs h _ ih => exact .rp cs h ih
  | nils => exact .nils
  | sl0 => exact .sl0
  | sl cs hsz hcap h _ ih => exact .sl cs hsz hcap h ih
  | ms h h1 h2 => exact .ms h h1 h2
  | nilm => exact .nilm
  | mp h => exact .mp h
  | nilf => exact .nilf
  | clo cs hl _ ih => exact .clo cs hl ih
  | nili => exact .nili
  | tok v h => exact .tok v h
theorem ConcL.rsd {g : Gh} {w : World} (r : Nat → Prop) {xs : List Lf} {vs : List Value} (h : ConcL g w xs vs) : ConcL (g.rsd r) w xs vs := ⟨h.1, fun i x v a b => (h.2 i x v a b).rsd r⟩
theorem ConcA.rsd {g : Gh} {w : World} (r : Nat → Prop) {x : AV} {v : Value} (h : ConcA g w x v) : ConcA (g.rsd r) w x v := by
  induction h with
  | l h => exact .l (h.rsd r)
  | agg vs h => exact .agg vs (h.rsd r)
  | tup vs hl _ ih => exact .tup vs hl ih
  | any v => exact .any v
theorem BlkAt.rsd {g : Gh} {w : World} (r : Nat → Prop) {id : Nat} {b : Blk} (h : BlkAt g w id b) : BlkAt (g.rsd r) w id b := by
  cases b with
  | cells T rows keep =>
    obtain ⟨b, sz, cr, cur, h1, h2, h3, h4, h5, h6, h7, h8, h9⟩ := h
    exact ⟨b, sz, cr, cur, h1, h2, h3, h4, h5, ⟨h6.1, fun i j r' x a b => let ⟨v, p, q⟩ := h6.2 i j r' x a b; ⟨v, p, q.rsd r⟩⟩, h7, h8, h9⟩
  | map es =>
    obtain ⟨b, sz, cr, ents, clock, h1, h2, h3, h4, h5⟩ := h
    exact ⟨b, sz, cr, ents, clock, h1, h2, h3, h4, fun i p e a b => ⟨(h5 i p e a b).1.rsd r, (h5 i p e a b).2.rsd r⟩⟩
theorem Rel.rsd {g : Gh} {M : Mem} {w : World} (r : Nat → Prop) (h : Rel g M w) (hr : ∃ n, ∀ id, n ≤ id → ¬ r id) : Rel (g.rsd r) M w where
  blk id b hb := (h.blk id b hb).rsd r
  inj := h.inj
  lt := h.lt
  fz := h.fz
  fin := by
    obtain ⟨n, hn⟩ := h.fin
    obtain ⟨m, hm⟩ := hr
    exact ⟨max n m, fun id hid => ⟨(hn id (by omega)).1, (hn id (by omega)).2.1, hm id (by omega)⟩⟩
  below := h.below
theorem FrR.rsd {g : Gh} {w : World} {n : Nat} {fr : Fr} {a : Act} (r : Nat → Prop) (h : FrR g w n fr a) : FrR (g.rsd r) w n fr a := ⟨h.defers, h.size, fun i hi => (h.get i hi).rsd r⟩

/-! ### an operation looks at its operands alone -/
theorem vopcG_fr {N : (Nat → Prop) → Prop} {P : Program} {op : Op} {fr fr' : Fr} {M : Mem} {K : AV → Mem → Prop} (h : ∀ x ∈ op.operands.toList, ev fr x = ev fr' x) (hv : vopcG N P op fr M K) : vopcG N P op fr' M K := by
  have E : ∀ x, x ∈ op.operands.toList → ev fr x = ev fr' x := h
  cases op with
  | move x => simpa only [vopcG, E x (by simp [Op.operands])] using hv
  | assign x => simpa only [vopcG, E x (by simp [Op.operands])] using hv
  | pick c x y => simpa only [vopcG, E x (by simp [Op.operands]), E y (by simp [Op.operands]), E c (by simp [Op.operands])] using hv
  | alloc T => exact hv
  | box T x => simpa only [vopcG, E x (by simp [Op.operands])] using hv
  | build t parts =>
    have : (parts.toList.map fun p => (p.1, ev fr p.2)) = (parts.toList.map fun p => (p.1, ev fr' p.2)) := List.map_congr_left fun p hp => by rw [E p.2 (by simp only [Op.operands, Array.toList_map]; exact List.mem_map.2 ⟨p, hp, rfl⟩)]
    simpa only [vopcG, this] using hv
  | buildSlice t len parts =>
    have : (parts.toList.map fun p => (p.1, ev fr p.2)) = (parts.toList.map fun p => (p.1, ev fr' p.2)) := List.map_congr_left fun p hp => by rw [E p.2 (by simp only [Op.operands, Array.toList_map]; exact List.mem_map.2 ⟨p, hp, rfl⟩)]
    simpa only [vopcG, this] using hv
  | load t x => simpa only [vopcG, E x (by simp [Op.operands])] using hv
  | store t x y => simpa only [vopcG, E x (by simp [Op.operands]), E y (by simp [Op.operands])] using hv
  | nilCheck x => simpa only [vopcG, E x (by simp [Op.operands])] using hv
  | binOp op t x y u => simpa only [vopcG, E x (by simp [Op.operands]), E y (by simp [Op.operands])] using hv
  | unOp op t x => simpa only [vopcG, E x (by simp [Op.operands])] using hv
  | convert s d x => simpa only [vopcG, E x (by simp [Op.operands])] using hv
  | makeFunc fn first caps =>
    have : (caps.toList.map (ev fr)) = (caps.toList.map (ev fr')) := List.map_congr_left fun p hp => E p (by simp [Op.operands] at *; simp [hp])
    simpa only [vopcG, this] using hv
  | makeSlice t l c => simpa only [vopcG, E l (by simp [Op.operands]), E c (by simp [Op.operands])] using hv
  | makeMap t r => exact hv
  | slice t x lo hi mx =>
    have hl : ∀ z : Option Operand, (∀ y, z = some y → y ∈ (Op.slice t x lo hi mx).operands.toList) → z.map (ev fr) = z.map (ev fr') := fun z hz => by
      cases z with
      | none => rfl
      | some y => simp only [Option.map_some, E y (hz y rfl)]
    have h1 := hl lo (fun y hy => by subst hy; simp [Op.operands])
    have h2 := hl hi (fun y hy => by subst hy; simp [Op.operands])
    have h3 := hl mx (fun y hy => by subst hy; simp [Op.operands])
    simpa only [vopcG, E x (by simp [Op.operands]), h1, h2, h3] using hv
  | fieldAddr s x f => simpa only [vopcG, E x (by simp [Op.operands])] using hv
  | field t x f => simpa only [vopcG, E x (by simp [Op.operands])] using hv
  | indexAddr t x i => simpa only [vopcG, E x (by simp [Op.operands]), E i (by simp [Op.operands])] using hv
  | index t x i => simpa only [vopcG, E x (by simp [Op.operands]), E i (by simp [Op.operands])] using hv
  | lookup t m k ok => simpa only [vopcG, E m (by simp [Op.operands]), E k (by simp [Op.operands])] using hv
  | mapUpdate t m k v => simpa only [vopcG, E m (by simp [Op.operands]), E k (by simp [Op.operands]), E v (by simp [Op.operands])] using hv
  | extract x i => simpa only [vopcG, E x (by simp [Op.operands])] using hv
  | call c =>
    have ha : (c.args.toList.map (ev fr)) = (c.args.toList.map (ev fr')) := List.map_congr_left fun p hp => E p (by simp [Op.operands, Call.operands] at *; simp [hp])
    simp only [vopcG] at hv ⊢
    unfold callG at hv ⊢
    rw [ha] at hv
    split at hv
    · exact hv
    · rename_i t hc
      have := E (.tmp t) (by simp [Op.operands, Call.operands, hc])
      simp only [ev] at this
      rw [← this]
      exact hv
    · exact hv
    · exact hv.elim
  | _ => exact hv

end Go.X
