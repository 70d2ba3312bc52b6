/- The program logic: the walk through a drawn region that writes. -/
import Derived.Test.YthgppaccdlcaiaaXt
set_option linter.unusedVariables false
set_option linter.unusedSimpArgs false
set_option linter.unusedSectionVars false
namespace Go.X
open Go.RowKit

class KonE where
  k : AV → Eff → Prop
/-- A call in a drawn region, with what it does to the memory. -/
def wcallI (P : Program) (f : FuncId) (args : List AV) (M : Mem) [c : KonE] : Prop := ∃ v e, (∀ M', M.le M' → XCalls P f args M' fun x M'' => x = v ∧ (updE M' e).le M'') ∧ c.k v e
theorem wcallI_of {P : Program} {f : FuncId} {args : List AV} {M : Mem} {C : AV → Eff → Prop} {v : AV} (h : ∀ M', M.le M' → XCalls P f args M' fun x M'' => x = v ∧ M'' = M') (hc : C v []) : @wcallI P f args M ⟨C⟩ :=
  ⟨v, [], fun M' hle => (h M' hle).mono fun _ _ ⟨a, b⟩ => ⟨a, by rw [b]; exact Mem.le_refl _⟩, hc⟩

def storeE (P : Program) (M : Mem) (t : TypeId) (a v : AV) : Option (Nat × Blk) :=
  match a, avCells v, tiOf P t with
  | .l (.ptr id r c), some vs, some i =>
    match M id with
    | some (.cells T rows keep) =>
      match rows[r]? with
      | some row => if vs.length = i.size ∧ c + vs.length ≤ row.length ∧ keep ≤ r then some (id, .cells T (rows.set r (overw row c vs)) keep) else none
      | none => none
    | _ => none
  | _, _, _ => none
theorem storeE_le {P : Program} {M : Mem} {t : TypeId} {a v : AV} {p : Nat × Blk} (h : storeE P M t a v = some p) {M' : Mem} (hle : M.le M') : storeA P M' t a v = some (M'.set p.1 p.2) := by
  unfold storeE at h
  split at h
  · rename_i id r c vs i h1 h2
    split at h
    · rename_i T rows keep hM
      split at h
      · rename_i row hr
        split at h
        · rename_i hcond
          simp only [Option.some.injEq] at h
          subst h
          unfold storeA
          simp only [h1, h2, hle _ _ hM, hr]
          rw [if_pos hcond]
        · cases h
      · cases h
    · cases h
  · cases h

/-- append to a block of one's own, in a drawn region. -/
def wapp (P : Program) (M : Mem) (nid : Nat) (t tx : TypeId) (s x : AV) (C : AV → Eff → Prop) : Prop :=
  match tiOf P t with
  | some ti => match ti.d with
    | .slice e => match tiOf P e with
      | some te => zeroFits P e = true ∧ optK (srcRows P M t tx e te x) fun src =>
        match s with
        | .l (.ms id 0 len) => match M id with
          | some (.cells T rows keep) => 0 < te.size ∧ T = e ∧ len ≤ rows.length ∧ keep ≤ len ∧ (len + src.length) * te.bytes ≤ 140737488355328 ∧ (len + src.length) ≤ 140737488355328 ∧
            C (.l (.ms nid 0 (len + src.length))) [(id, none), (nid, some (.cells e (rows.take len ++ src) keep))]
          | _ => False
        | _ => False
      | none => False
    | _ => False
  | none => False

def wop (P : Program) (op : Op) (fr : Fr) (M : Mem) (nid : Nat) (C : AV → Eff → Prop) : Prop :=
  match op with
  | .alloc T => optK (tiOf P T) fun i => optK (avCells i.zero) fun cs => cs.length = i.size ∧ C (.l (.ptr nid 0 0)) [(nid, some (.cells T [cs] 0))]
  | .box T x => optK (tiOf P T) fun i => optK (avCells (ev fr x)) fun cs => cs.length = i.size ∧ C (.l (.ptr nid 0 0)) [(nid, some (.cells T [cs] 0))]
  | .buildSlice t len parts => optK (buildSliceA P t len (parts.toList.map fun p => (p.1, ev fr p.2))) fun r => C (.l (.ms nid 0 len)) [(nid, some (.cells r.1 r.2 0))]
  | .makeSlice t l c => optK (makeSliceA P t (ev fr l) (ev fr c)) fun r => C (.l (.ms nid 0 r.2.length)) [(nid, some (.cells r.1 r.2 0))]
  | .store t x v => optK (storeE P M t (ev fr x) (ev fr v)) fun p => C .any [(p.1, some p.2)]
  | .call c => match c.callee with
    | .value (.func f) => @wcallI P f (c.args.toList.map (ev fr)) M ⟨C⟩
    | .builtin .append => (match c.argTypes.toList, c.args.toList.map (ev fr) with | [t, tx], [s, x] => wapp P M nid t tx s x C | _, _ => False)
    | _ => dop P (.call c) fr M fun v => C v []
  | op => dop P op fr M fun v => C v []

theorem wop_sound {P : Program} {op : Op} {fr : Fr} {M : Mem} {nid : Nat} {C : AV → Eff → Prop} (h : wop P op fr M nid C) :
    ∃ v e, C v e ∧ ∀ M', M.le M' → M' nid = none → vopcG (fun F => F nid) P op fr M' fun x M'' => x = v ∧ (updE M' e).le M'' := by
  have O : ∀ (o : Option AV), optK o (fun v => C v []) → ∃ v e, C v e ∧ e = [] ∧ o = some v := fun o ho => by
    obtain ⟨v, hv, hc⟩ := optK_elim ho
    exact ⟨v, [], hc, rfl, hv⟩
  have fin : ∀ {o : Option AV} {f : Mem → Option AV}, optK o (fun v => C v []) → (∀ v M', o = some v → M.le M' → f M' = some v) → ∃ v e, C v e ∧ ∀ M' : Mem, M.le M' → M' nid = none → optK (f M') fun x => x = v ∧ (updE M' e).le M' := fun ho hf => by
    obtain ⟨v, hv, hc⟩ := optK_elim ho
    exact ⟨v, [], hc, fun M' hle _ => by rw [hf v M' hv hle]; exact ⟨rfl, Mem.le_refl _⟩⟩
  cases op with
  | move x => exact ⟨_, [], h, fun M' _ _ => ⟨rfl, Mem.le_refl _⟩⟩
  | assign x => exact ⟨_, [], h, fun M' _ _ => ⟨rfl, Mem.le_refl _⟩⟩
  | pick c x y =>
    have h : dop P (.pick c x y) fr M fun v => C v [] := h
    simp only [dop] at h
    unfold pickK at h
    split at h
    · rename_i t ht
      refine ⟨_, [], h, fun M' _ _ => ?_⟩
      simp only [vopcG, pickK, ht]
      exact ⟨trivial, Mem.le_refl _⟩
    · exact h.elim
  | alloc T =>
    obtain ⟨i, hi, h⟩ := optK_elim h
    obtain ⟨cs, hcs, hl, h⟩ := optK_elim h
    refine ⟨_, _, h, fun M' _ _ => ?_⟩
    simp only [vopcG, hi, hcs, optK]
    exact ⟨hl, trivial, Mem.le_refl _⟩
  | box T x =>
    obtain ⟨i, hi, h⟩ := optK_elim h
    obtain ⟨cs, hcs, hl, h⟩ := optK_elim h
    refine ⟨_, _, h, fun M' _ _ => ?_⟩
    simp only [vopcG, hi, hcs, optK]
    exact ⟨hl, trivial, Mem.le_refl _⟩
  | build t parts => exact fin h fun v M' hv hle => hv
  | buildSlice t len parts =>
    obtain ⟨r, hr, h⟩ := optK_elim h
    refine ⟨_, _, h, fun M' _ _ => ?_⟩
    simp only [vopcG, hr, optK]
    exact ⟨trivial, Mem.le_refl _⟩
  | makeSlice t l c =>
    obtain ⟨r, hr, h⟩ := optK_elim h
    refine ⟨_, _, h, fun M' _ _ => ?_⟩
    simp only [vopcG, hr, optK]
    exact ⟨trivial, Mem.le_refl _⟩
  | load t x => exact fin (f := fun M' => loadA P M' t (ev fr x)) h fun v M' hv hle => loadA_le hle hv
  | store t x v =>
    obtain ⟨p, hp, h⟩ := optK_elim h
    refine ⟨_, _, h, fun M' hle _ => ?_⟩
    simp only [vopcG, storeE_le hp hle, optK]
    exact ⟨trivial, Mem.le_refl _⟩
  | nilCheck x => exact fin h fun v M' hv hle => hv
  | binOp op t x y u =>
    obtain ⟨v, hv, hb⟩ := binK_det h.1 h.2
    refine ⟨v, [], hv, fun M' _ _ => ?_⟩
    simp only [vopcG]
    have : (fun x => x = v) = fun x => x = v ∧ (updE M' []).le M' := by funext x; simp [updE, Mem.le_refl]
    rw [← this]; exact hb
  | unOp op t x => exact fin h fun v M' hv hle => hv
  | convert s d x => exact fin h fun v M' hv hle => hv
  | slice t x lo hi mx => exact fin (f := fun M' => sliceA P M' t (ev fr x) (lo.map (ev fr)) (hi.map (ev fr)) (mx.map (ev fr))) h fun v M' hv hle => sliceA_le hle hv
  | fieldAddr s x f => exact fin h fun v M' hv hle => hv
  | field t x f => exact fin h fun v M' hv hle => hv
  | indexAddr t x i => exact fin (f := fun M' => indexAddrA P M' t (ev fr x) (ev fr i)) h fun v M' hv hle => indexAddrA_le hle hv
  | index t x i => exact fin h fun v M' hv hle => hv
  | lookup t m k ok => exact fin (f := fun M' => lookupA P M' t (ev fr m) (ev fr k) ok) h fun v M' hv hle => lookupA_le hle hv
  | extract x i => exact fin h fun v M' hv hle => hv
  | call c =>
    simp only [wop] at h
    split at h
    · rename_i f hc
      obtain ⟨v, e, hx, hcv⟩ := h
      refine ⟨v, e, hcv, fun M' hle _ => ?_⟩
      simp only [vopcG]
      unfold callG
      rw [hc]
      exact hx M' hle
    · rename_i hc
      split at h
      · rename_i t tx s x h1 h2
        unfold wapp at h
        split at h
        · rename_i ti hti
          split at h
          · rename_i e hd
            split at h
            · rename_i te hte
              obtain ⟨hz, h⟩ := h
              obtain ⟨src, hsrc, h⟩ := optK_elim h
              split at h
              · rename_i id len
                split at h
                · rename_i T rows keep hM
                  obtain ⟨a1, a2, a3, a4, a5, a6, h⟩ := h
                  refine ⟨_, _, h, fun M' hle _ => ?_⟩
                  simp only [vopcG]
                  unfold callG
                  rw [hc]
                  simp only [h1, h2, builtG]
                  rw [appendA_ms]
                  unfold appendG
                  simp only [hti, hd, hte, srcRows_le hle hsrc, optK, hle _ _ hM]
                  exact ⟨hz, a1, a2, a3, a4, a5, a6, trivial, Mem.le_refl _⟩
                · exact h.elim
              · exact h.elim
            · exact h.elim
          · exact h.elim
        · exact h.elim
      · exact h.elim
    · rename_i n1 n2
      simp only [dop] at h
      split at h
      · rename_i f hc; exact absurd hc (n1 f)
      · rename_i hc
        split at h
        · rename_i t x h1 h2
          obtain ⟨v, hv, hcv⟩ := optK_elim h
          refine ⟨v, [], hcv, fun M' hle _ => ?_⟩
          simp only [vopcG]
          unfold callG
          rw [hc]
          simp only [h1, h2, builtG, lenA_le hle hv, optK]
          exact ⟨trivial, Mem.le_refl _⟩
        · exact h.elim
      · exact h.elim
  | _ => exact h.elim
end Go.X
