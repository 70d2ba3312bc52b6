/- The program logic: regions whose order is drawn and that change nothing: the walk in the text's order. -/
import Derived.Test.YthgppaccdlcaiaaXq
set_option linter.unusedVariables false
set_option linter.unusedSimpArgs false
set_option linter.unusedSectionVars false
namespace Go.X
open Go.RowKit

class KonV where
  k : AV → Prop
/-- A call that changes nothing. -/
def dcallI (P : Program) (f : FuncId) (args : List AV) (M : Mem) [c : KonV] : Prop := ∃ v, XCalls P f args M (fun x M' => x = v ∧ M.le M') ∧ c.k v
theorem dcallI_of {P : Program} {f : FuncId} {args : List AV} {M : Mem} {C : AV → Prop} {v : AV} (h : XCalls P f args M fun x M' => x = v ∧ M' = M) (hc : C v) : @dcallI P f args M ⟨C⟩ :=
  ⟨v, h.mono fun _ _ ⟨a, b⟩ => ⟨a, by rw [b]; exact Mem.le_refl M⟩, hc⟩

def dop (P : Program) (op : Op) (fr : Fr) (M : Mem) (C : AV → Prop) : Prop :=
  match op with
  | .move x => C (ev fr x)
  | .assign x => C (ev fr x)
  | .pick c a b => pickK (ev fr c) (ev fr a) (ev fr b) C
  | .build t parts => optK (buildA P t (parts.toList.map fun p => (p.1, ev fr p.2))) C
  | .load t x => optK (loadA P M t (ev fr x)) C
  | .nilCheck x => optK (nilChk (ev fr x)) C
  | .binOp op t x y _ => isNilS y = false ∧ binK P op t x y (ev fr x) (ev fr y) C
  | .unOp op _ x => optK (unA op (ev fr x)) C
  | .convert s d x => optK (convA P s d (ev fr x)) C
  | .slice t x lo hi mx => optK (sliceA P M t (ev fr x) (lo.map (ev fr)) (hi.map (ev fr)) (mx.map (ev fr))) C
  | .fieldAddr s x f => optK (fieldAddrA P s (ev fr x) f) C
  | .field t x f => optK (fieldA P t (ev fr x) f) C
  | .indexAddr t x i => optK (indexAddrA P M t (ev fr x) (ev fr i)) C
  | .index t x i => optK (indexA P t (ev fr x) (ev fr i)) C
  | .lookup t m k ok => optK (lookupA P M t (ev fr m) (ev fr k) ok) C
  | .extract x i => optK (extractA (ev fr x) i) C
  | .call c => match c.callee with
    | .value (.func f) => @dcallI P f (c.args.toList.map (ev fr)) M ⟨C⟩
    | .builtin .len => (match c.argTypes.toList, c.args.toList.map (ev fr) with | [t], [x] => optK (lenA P M t x) C | _, _ => False)
    | _ => False
  | _ => False

theorem binK_det {P : Program} {op : BinOp} {t : TypeId} {x y : Operand} {a b : AV} {C : AV → Prop} (hn : isNilS y = false) (h : binK P op t x y a b C) : ∃ v, C v ∧ binK P op t x y a b fun u => u = v := by
  unfold binK at h ⊢
  split at h
  · split at h
    · rename_i hkk
      obtain ⟨v, hv, hc⟩ := optK_elim h
      exact ⟨_, hc, by rw [if_pos hkk, hv]; exact rfl⟩
    · rename_i hkk
      obtain ⟨v, hv, hc⟩ := optK_elim h
      exact ⟨_, hc, by rw [if_neg hkk, hv]; exact rfl⟩
  · rw [hn] at h ⊢
    cases op <;> simp only [Bool.false_eq_true, if_false] at h ⊢
    case add => 
      split at h
      · exact ⟨_, h.2, h.1, rfl⟩
      · exact h.elim
    case eql =>
      obtain ⟨v, hv, hc⟩ := optK_elim h
      exact ⟨_, hc, by rw [hv]; exact rfl⟩
    case neq =>
      obtain ⟨v, hv, hc⟩ := optK_elim h
      exact ⟨_, hc, by rw [hv]; exact rfl⟩
    all_goals exact h.elim

theorem dop_sound {N : (Nat → Prop) → Prop} {P : Program} {op : Op} {fr : Fr} {M : Mem} {C : AV → Prop} (h : dop P op fr M C) : ∃ v, C v ∧ vopcG N P op fr M fun x M' => x = v ∧ M.le M' := by
  have le := Mem.le_refl M
  have O : ∀ (o : Option AV), optK o C → ∃ v, C v ∧ optK o fun x => x = v ∧ M.le M := fun o ho => by
    obtain ⟨v, hv, hc⟩ := optK_elim ho
    exact ⟨v, hc, by rw [hv]; exact ⟨rfl, le⟩⟩
  cases op with
  | move x => exact ⟨_, h, rfl, le⟩
  | assign x => exact ⟨_, h, rfl, le⟩
  | pick c x y =>
    simp only [dop] at h
    simp only [vopcG]
    unfold pickK at h ⊢
    split at h
    · exact ⟨_, h, rfl, le⟩
    · exact h.elim
  | build t parts => exact O _ h
  | load t x => exact O _ h
  | nilCheck x => exact O _ h
  | binOp op t x y u =>
    obtain ⟨v, hv, hb⟩ := binK_det h.1 h.2
    refine ⟨v, hv, ?_⟩
    simp only [vopcG]
    have : (fun x => x = v) = fun x => x = v ∧ M.le M := by funext x; simp [le]
    rw [← this]; exact hb
  | unOp op t x => exact O _ h
  | convert s d x => exact O _ h
  | slice t x lo hi mx => exact O _ h
  | fieldAddr s x f => exact O _ h
  | field t x f => exact O _ h
  | indexAddr t x i => exact O _ h
  | index t x i => exact O _ h
  | lookup t m k ok => exact O _ h
  | extract x i => exact O _ h
  | call c =>
    simp only [dop] at h
    simp only [vopcG]
    unfold callG
    split at h
    · rename_i f hc
      obtain ⟨v, hx, hcv⟩ := h
      exact ⟨v, hcv, by rw [hc]; exact hx⟩
    · rename_i hc
      split at h
      · rename_i t x h1 h2
        obtain ⟨v, hv, hcv⟩ := optK_elim h
        refine ⟨v, hcv, ?_⟩
        rw [hc]
        simp only [h1, h2, builtG, hv, optK]
        exact ⟨trivial, le⟩
      · exact h.elim
    · exact h.elim
  | _ => exact h.elim

def vdr (P : Program) (ops : List Oper) : List Oper → (Fr → Prop) → Fr → Mem → Prop
  | [], K, fr, M => K fr
  | o :: rest, K, fr, M =>
    match o.guard with
    | none => dop P o.op fr M fun v => vdr P ops rest K (updO fr o.dst v) M
    | some (j, u) => match gslot ops j with
      | some d => gK (fr d) u (dop P o.op fr M fun v => vdr P ops rest K (updO fr o.dst v) M) (vdr P ops rest K (updO fr o.dst (.tup [])) M)
      | none => False

theorem vdr_plan {P : Program} {ops : List Oper} {fr : Fr} {M : Mem} (n0 : Nat) (hM : ∀ j, n0 ≤ j → M j = none) {K : Fr → Prop} (rest : List Oper) : ∀ (k : Nat) (v : Nat → AV), ops.drop k = rest → 
    (∀ i o, i < k → ops[i]? = some o → ∃ b, Runs ops o (frT ops v fr i) b ∧ (b = false → v i = .tup []) ∧ (b = true → vopcG (fun F => F (n0 + i)) P o.op (frT ops v fr i) M fun x M' => x = v i ∧ M.le M')) →
    vdr P ops rest K (frT ops v fr k) M → ∃ v, Plan P ops fr n0 v (fun _ => M) ∧ K (frT ops v fr ops.length) := by
  induction rest with
  | nil =>
    intro k v hd hf h
    have hk : ops.length ≤ k := by
      have := congrArg List.length hd
      simp at this
      omega
    have hT : ∀ m, ops.length ≤ m → frT ops v fr m = frT ops v fr ops.length := by
      intro m
      induction m with
      | zero => intro h; rw [Nat.le_zero.1 h]
      | succ m ih =>
        intro hm
        by_cases he : ops.length = m + 1
        · rw [he]
        · rw [← ih (by omega), frT]
          have : dstOf ops m = none := by simp [dstOf, List.getElem?_eq_none (show ops.length ≤ m by omega)]
          rw [this]; rfl
    refine ⟨v, ⟨fun i o ho => ?_⟩, by rw [← hT k hk]; exact h⟩
    have hi := (List.getElem?_eq_some_iff.1 ho).1
    obtain ⟨b, h1, h2, h3⟩ := hf i o (by omega) ho
    exact ⟨b, h1, h2, fun L _ _ _ => ⟨fun hb => ⟨hM _ (by omega), h3 hb⟩, fun _ => Mem.le_refl M⟩⟩
  | cons o rest ih =>
    intro k v hd hf h
    have hok : ops[k]? = some o := by
      have := congrArg List.head? hd
      rw [List.head?_drop] at this
      simpa using this
    have hdst : dstOf ops k = o.dst := by simp [dstOf, hok]
    have next : ∀ (u : AV) (b : Bool), Runs ops o (frT ops v fr k) b → (b = false → u = .tup []) → (b = true → vopcG (fun F => F (n0 + k)) P o.op (frT ops v fr k) M fun x M' => x = u ∧ M.le M') →
        vdr P ops rest K (updO (frT ops v fr k) o.dst u) M → ∃ v, Plan P ops fr n0 v (fun _ => M) ∧ K (frT ops v fr ops.length) := by
      intro u b hr hb hv hk
      have hcong : ∀ i, i ≤ k → frT ops (fun j => if j = k then u else v j) fr i = frT ops v fr i := fun i hi => frT_congr i fun j hj => by
        have : j ≠ k := by omega
        simp [this]
      refine ih (k + 1) (fun j => if j = k then u else v j) (by rw [← List.drop_drop, hd]; rfl) (fun i o' hi ho' => ?_) ?_
      · rw [hcong i (by omega)]
        by_cases hik : i = k
        · subst hik
          rw [hok, Option.some.injEq] at ho'
          subst ho'
          exact ⟨b, hr, fun h => by simp [hb h], fun h => by simpa using hv h⟩
        · obtain ⟨b', h1, h2, h3⟩ := hf i o' (by omega) ho'
          exact ⟨b', h1, fun h => by simpa [hik] using h2 h, fun h => by simpa [hik] using h3 h⟩
      · rw [frT, hcong k (Nat.le_refl _), hdst]
        simpa using hk
    simp only [vdr] at h
    split at h
    · rename_i hg
      obtain ⟨u, hc, hv⟩ := dop_sound (N := fun F => F (n0 + k)) h
      exact next u true (by simp [Runs, hg]) (by simp) (fun _ => hv) hc
    · rename_i j u hg
      split at h
      · rename_i d hgs
        unfold gK at h
        split at h
        · rename_i c hfd
          by_cases hcu : c = u
          · subst hcu
            obtain ⟨x, hc, hv⟩ := dop_sound (N := fun F => F (n0 + k)) (h.1 rfl)
            exact next x true (by rw [Runs, hg]; exact ⟨d, hgs, .inl ⟨c, hfd, by simp⟩⟩) (by simp) (fun _ => hv) hc
          · have hcu' : c = !u := by revert hcu; cases c <;> cases u <;> simp
            exact next (.tup []) false (by rw [Runs, hg]; exact ⟨d, hgs, .inl ⟨c, hfd, by simp [hcu]⟩⟩) (fun _ => rfl) (by simp) (h.2 hcu')
        · rename_i hfd
          exact next (.tup []) false (by rw [Runs, hg]; exact ⟨d, hgs, .inr ⟨hfd, rfl⟩⟩) (fun _ => rfl) (by simp) h
        · exact h.elim
      · exact h.elim

/-- A drawn region that changes nothing: walk it in the text's order. -/
theorem xquiet {P : Program} {n id : Nat} {ops : List Oper} {fr : Fr} {M : Mem} {K : Fr → Mem → Prop} (hmix : P.follows .mixedOrders = true) (hok : opsOk n ops = true) (hd : drawOk ops = true) (h : vdr P ops ops (fun fr => K fr M) fr M) : @drawI P n id ops.toArray fr M ⟨K⟩ :=
  drawI_of (xdraw hmix hok hd fun n0 hn0 => by
    obtain ⟨v, pl, hk⟩ := vdr_plan (P := P) (ops := ops) (fr := fr) n0 hn0 (K := fun fr => K fr M) ops 0 (fun _ => .any) rfl (fun i o hi => by omega) h
    exact ⟨v, fun _ => M, M, pl, fun _ _ => Mem.le_refl M, fun _ _ => Mem.le_refl M, hk⟩)

/-! ### the walk's equations -/
section
variable (P : Program) (fr : Fr) (M : Mem) (C : AV → Prop)
theorem vdr_nil (ops : List Oper) (K : Fr → Prop) : vdr P ops [] K fr M = K fr := rfl
theorem vdr_plain (ops : List Oper) (dst : Option Tmp) (op : Op) (type : TypeId) (pos : String) (after : Array Edge) (rest : List Oper) (K : Fr → Prop) :
    vdr P ops (⟨dst, op, type, pos, after, none⟩ :: rest) K fr M = dop P op fr M fun v => vdr P ops rest K (updO fr dst v) M := rfl
theorem vdr_guard (ops : List Oper) (dst : Option Tmp) (op : Op) (type : TypeId) (pos : String) (after : Array Edge) (j : Nat) (u : Bool) (rest : List Oper) (K : Fr → Prop) :
    vdr P ops (⟨dst, op, type, pos, after, some (j, u)⟩ :: rest) K fr M = @optI _ (gslot ops j) ⟨fun d => @gI (fr d) u ⟨dop P op fr M fun v => vdr P ops rest K (updO fr dst v) M⟩ ⟨vdr P ops rest K (updO fr dst (.tup [])) M⟩⟩ := by
  unfold optI optK
  simp only [vdr]
  cases gslot ops j <;> rfl
theorem do_move (x : Operand) : dop P (.move x) fr M C = @valI (ev fr x) ⟨C⟩ := rfl
theorem do_assign (x : Operand) : dop P (.assign x) fr M C = @valI (ev fr x) ⟨C⟩ := rfl
theorem do_pick (c a b : Operand) : dop P (.pick c a b) fr M C = @pickI (ev fr c) (ev fr a) (ev fr b) ⟨C⟩ := rfl
theorem do_build (t : TypeId) (l : List (Nat × Operand)) : dop P (.build t l.toArray) fr M C = @optI _ (buildA P t (l.map fun p => (p.1, ev fr p.2))) ⟨C⟩ := rfl
theorem do_load (t : TypeId) (x : Operand) : dop P (.load t x) fr M C = @optI _ (loadA P M t (ev fr x)) ⟨C⟩ := rfl
theorem do_nilCheck (x : Operand) : dop P (.nilCheck x) fr M C = @optI _ (nilChk (ev fr x)) ⟨C⟩ := rfl
theorem do_binOp (op : BinOp) (t : TypeId) (x y : Operand) (u : TypeId) : dop P (.binOp op t x y u) fr M C = (isNilS y = false ∧ @binI P op t x y (ev fr x) (ev fr y) ⟨C⟩) := rfl
theorem do_unOp (op : UnOp) (t : TypeId) (x : Operand) : dop P (.unOp op t x) fr M C = @optI _ (unA op (ev fr x)) ⟨C⟩ := rfl
theorem do_convert (s d : TypeId) (x : Operand) : dop P (.convert s d x) fr M C = @optI _ (convA P s d (ev fr x)) ⟨C⟩ := rfl
theorem do_slice (t : TypeId) (x : Operand) (lo hi mx : Option Operand) : dop P (.slice t x lo hi mx) fr M C = @optI _ (sliceA P M t (ev fr x) (lo.map (ev fr)) (hi.map (ev fr)) (mx.map (ev fr))) ⟨C⟩ := rfl
theorem do_fieldAddr (s : TypeId) (x : Operand) (f : Nat) : dop P (.fieldAddr s x f) fr M C = @optI _ (fieldAddrA P s (ev fr x) f) ⟨C⟩ := rfl
theorem do_field (s : TypeId) (x : Operand) (f : Nat) : dop P (.field s x f) fr M C = @optI _ (fieldA P s (ev fr x) f) ⟨C⟩ := rfl
theorem do_indexAddr (t : TypeId) (x i : Operand) : dop P (.indexAddr t x i) fr M C = @optI _ (indexAddrA P M t (ev fr x) (ev fr i)) ⟨C⟩ := rfl
theorem do_index (t : TypeId) (x i : Operand) : dop P (.index t x i) fr M C = @optI _ (indexA P t (ev fr x) (ev fr i)) ⟨C⟩ := rfl
theorem do_lookup (t : TypeId) (m k : Operand) (ok : Bool) : dop P (.lookup t m k ok) fr M C = @optI _ (lookupA P M t (ev fr m) (ev fr k) ok) ⟨C⟩ := rfl
theorem do_extract (x : Operand) (i : Nat) : dop P (.extract x i) fr M C = @optI _ (extractA (ev fr x) i) ⟨C⟩ := rfl
theorem do_call (f : FuncId) (l : List Operand) (ts : Array TypeId) : dop P (.call ⟨.value (.func f), l.toArray, ts⟩) fr M C = @dcallI P f (l.map (ev fr)) M ⟨C⟩ := rfl
theorem do_len (x : Operand) (t : TypeId) : dop P (.call ⟨.builtin .len, #[x], #[t]⟩) fr M C = @optI _ (lenA P M t (ev fr x)) ⟨C⟩ := rfl
end
theorem isNilS_tmp (t : Tmp) : isNilS (.tmp t) = false := rfl
theorem isNilS_int (k : IntKind) (n : Int) : isNilS (.const (.int k n)) = false := rfl
theorem isNilS_bool (b : Bool) : isNilS (.const (.bool b)) = false := rfl

end Go.X
