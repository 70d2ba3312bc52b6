/- The program logic: the equations by which a walk goes on. -/
import Derived.Test.YthgppaccdlcaiaaXl
set_option linter.unusedVariables false
set_option linter.unusedSimpArgs false
set_option linter.unusedSectionVars false
namespace Go.X
open Go.RowKit

/-! Continuations stand as instances: simp doesn't look into them. -/
class Kon (α : Type) where
  k : α → Prop
class Kon2 where
  k : AV → Mem → Prop
class KonF where
  k : Fr → Mem → Prop
class KonQ where
  k : XE → Fr → Mem → Prop
class PrA where
  p : Prop
class PrB where
  p : Prop

def optI {α : Type} (o : Option α) [c : Kon α] : Prop := optK o c.k
theorem optI_some {α : Type} (a : α) (f : α → Prop) : @optI α (some a) ⟨f⟩ = f a := rfl
theorem optI_none {α : Type} (f : α → Prop) : @optI α none ⟨f⟩ = False := rfl
theorem optI_intro {α : Type} {o : Option α} {f : α → Prop} (a : α) (h : o = some a) (hf : f a) : @optI α o ⟨f⟩ := by rw [h]; exact hf
def condI (t : AV) [a : PrA] [b : PrB] : Prop := condK t a.p b.p
theorem condI_true (A B : Prop) : @condI (.l (.bool true)) ⟨A⟩ ⟨B⟩ = A := condK_true A B
theorem condI_false (A B : Prop) : @condI (.l (.bool false)) ⟨A⟩ ⟨B⟩ = B := condK_false A B
theorem condI_intro {b : Bool} {A B : Prop} (h : b = true → A) (h' : b = false → B) : @condI (.l (.bool b)) ⟨A⟩ ⟨B⟩ := ⟨h, h'⟩
def gI (t : AV) (u : Bool) [a : PrA] [b : PrB] : Prop := gK t u a.p b.p
theorem gI_tt (A B : Prop) : @gI (.l (.bool true)) true ⟨A⟩ ⟨B⟩ = A := gK_true_true A B
theorem gI_ff (A B : Prop) : @gI (.l (.bool false)) false ⟨A⟩ ⟨B⟩ = A := gK_false_false A B
theorem gI_tf (A B : Prop) : @gI (.l (.bool true)) false ⟨A⟩ ⟨B⟩ = B := gK_true_false A B
theorem gI_ft (A B : Prop) : @gI (.l (.bool false)) true ⟨A⟩ ⟨B⟩ = B := gK_false_true A B
theorem gI_skip (u : Bool) (A B : Prop) : @gI (.tup []) u ⟨A⟩ ⟨B⟩ = B := gK_skip u A B
theorem gI_intro {b u : Bool} {A B : Prop} (h : b = u → A) (h' : b = (!u) → B) : @gI (.l (.bool b)) u ⟨A⟩ ⟨B⟩ := ⟨h, h'⟩
def valI (v : AV) [c : Kon AV] : Prop := c.k v
theorem valI_l (x : Lf) (f : AV → Prop) : @valI (.l x) ⟨f⟩ = f (.l x) := rfl
theorem valI_agg (cs : List Lf) (f : AV → Prop) : @valI (.agg cs) ⟨f⟩ = f (.agg cs) := rfl
theorem valI_tup (vs : List AV) (f : AV → Prop) : @valI (.tup vs) ⟨f⟩ = f (.tup vs) := rfl
theorem valI_any (f : AV → Prop) : @valI .any ⟨f⟩ = f .any := rfl
def pickI (c x y : AV) [k : Kon AV] : Prop := pickK c x y k.k
theorem pickI_bool (t : Bool) (x y : AV) (f : AV → Prop) : @pickI (.l (.bool t)) x y ⟨f⟩ = @valI (pickA t x y) ⟨f⟩ := rfl
def newI (M : Mem) [c : Kon Nat] : Prop := newK M c.k
theorem newI_intro {M : Mem} {f : Nat → Prop} (h : ∀ id, (∀ j, id ≤ j → M j = none) → f id) : @newI M ⟨f⟩ := h
def binI (P : Program) (op : BinOp) (t : TypeId) (x y : Operand) (a b : AV) [c : Kon AV] : Prop := binK P op t x y a b c.k
def nilSI (q : Bool) (x : AV) [c : Kon AV] : Prop := nilSK q x c.k
theorem nilSI_ms (q : Bool) (id off len : Nat) (f : AV → Prop) : @nilSI q (.l (.ms id off len)) ⟨f⟩ = f (.l (.bool q)) := rfl
theorem nilSI_sl (q : Bool) {rows : List (List Lf)} {f : AV → Prop} (h : rows = [] → ∀ b, f (.l (.bool b))) (h' : rows ≠ [] → f (.l (.bool q))) : @nilSI q (.l (.sl rows)) ⟨f⟩ := ⟨h, h'⟩
theorem nilSI_nils (q : Bool) {f : AV → Prop} (h : ∀ b, f (.l (.bool b))) : @nilSI q (.l .nils) ⟨f⟩ := h
def appI (P : Program) (M : Mem) (t tx : TypeId) (s x : AV) [c : Kon2] : Prop := appendA (newK M) P M t tx s x c.k
def builtI (P : Program) (b : Builtin) (ts : List TypeId) (xs : List AV) (M : Mem) [c : Kon2] : Prop := builtK P b ts xs M c.k
def dynI (P : Program) (t : AV) (args : List AV) (M : Mem) [c : Kon2] : Prop := dynK P t args M c.k
def callI (P : Program) (f : FuncId) (args : List AV) (M : Mem) [c : Kon2] : Prop := XCalls P f args M c.k
theorem callI_of {P : Program} {f : FuncId} {args : List AV} {M : Mem} {K : AV → Mem → Prop} (h : XCalls P f args M K) : @callI P f args M ⟨K⟩ := h
def loopI (P : Program) (n : Nat) (body : Code) (fr : Fr) (M : Mem) [c : KonQ] : Prop := XLoop P n body c.k fr M
theorem loopI_of {P : Program} {n : Nat} {body : Code} {Q : XE → Fr → Mem → Prop} {fr : Fr} {M : Mem} (h : XLoop P n body Q fr M) : @loopI P n body fr M ⟨Q⟩ := h
def drawI (P : Program) (n id : Nat) (ops : Array Oper) (fr : Fr) (M : Mem) [c : KonF] : Prop := XDraw P n id ops c.k fr M
theorem drawI_of {P : Program} {n id : Nat} {ops : Array Oper} {K : Fr → Mem → Prop} {fr : Fr} {M : Mem} (h : XDraw P n id ops K fr M) : @drawI P n id ops fr M ⟨K⟩ := h
def finI (P : Program) (v : AV) (M : Mem) [c : Kon2] : Prop := XFin P v M c.k
theorem finI_of {P : Program} {v : AV} {M : Mem} {K : AV → Mem → Prop} (h : XFin P v M K) : @finI P v M ⟨K⟩ := h

section
variable (P : Program) (n : Nat) (Q : XE → Fr → Mem → Prop) (fr : Fr) (M : Mem) (K : AV → Mem → Prop)
theorem vops_plain' (ops : List Oper) (dst : Option Tmp) (op : Op) (type : TypeId) (pos : String) (after : Array Edge) (rest : List Oper) (K : Fr → Mem → Prop) :
    vops P ops (⟨dst, op, type, pos, after, none⟩ :: rest) K fr M = vopc P op fr M fun v M' => vops P ops rest K (updO fr dst v) M' := rfl
theorem vops_guard' (ops : List Oper) (dst : Option Tmp) (op : Op) (type : TypeId) (pos : String) (after : Array Edge) (j : Nat) (u : Bool) (rest : List Oper) (K : Fr → Mem → Prop) :
    vops P ops (⟨dst, op, type, pos, after, some (j, u)⟩ :: rest) K fr M = @optI _ (gslot ops j) ⟨fun d => @gI (fr d) u ⟨vopc P op fr M fun v M' => vops P ops rest K (updO fr dst v) M'⟩ ⟨vops P ops rest K (updO fr dst (.tup [])) M⟩⟩ := by
  rw [vops_guard]
  unfold optI optK
  cases gslot ops j <;> rfl
theorem retQ_normal' (rs : List ResultVar) (K : AV → Mem → Prop) : retQ P rs K .normal fr M = @optI _ (retA P rs fr M) ⟨fun v => @finI P v M ⟨K⟩⟩ := rfl
theorem retQ_ret' (rs : List ResultVar) (K : AV → Mem → Prop) : retQ P rs K .ret fr M = @optI _ (retA P rs fr M) ⟨fun v => @finI P v M ⟨K⟩⟩ := rfl
theorem vc_skip : vc P n .skip Q fr M = Q .normal fr M := rfl
theorem vc_ret : vc P n .ret Q fr M = Q .ret fr M := rfl
theorem vc_exit (id : Nat) : vc P n (.exit id) Q fr M = Q (.exit id) fr M := rfl
theorem vc_seq (a b : Code) : vc P n (.seq a b) Q fr M = vc P n a (seqQ (vc P n b Q) Q) fr M := rfl
theorem vc_cond (c : Operand) (a b : Code) : vc P n (.cond c a b) Q fr M = @condI (ev fr c) ⟨vc P n a Q fr M⟩ ⟨vc P n b Q fr M⟩ := rfl
theorem vc_block (id : Nat) (b : Code) : vc P n (.block id b) Q fr M = vc P n b (blockQ id Q) fr M := rfl
theorem vc_loop (b : Code) : vc P n (.loop b) Q fr M = @loopI P n b fr M ⟨Q⟩ := rfl
theorem vc_region (id : Nat) (l : List Oper) : vc P n (.region id l.toArray false) Q fr M = vops P l l (fun fr M => Q .normal fr M) fr M := rfl
theorem vc_draw (id : Nat) (l : List Oper) : vc P n (.region id l.toArray true) Q fr M = @drawI P n id l.toArray fr M ⟨fun fr M => Q .normal fr M⟩ := rfl

theorem vo_move (x : Operand) : vopc P (.move x) fr M K = @valI (ev fr x) ⟨fun v => K v M⟩ := rfl
theorem vo_assign (x : Operand) : vopc P (.assign x) fr M K = @valI (ev fr x) ⟨fun v => K v M⟩ := rfl
theorem vo_pick (c a b : Operand) : vopc P (.pick c a b) fr M K = @pickI (ev fr c) (ev fr a) (ev fr b) ⟨fun v => K v M⟩ := rfl
theorem vo_alloc (T : TypeId) : vopc P (.alloc T) fr M K = @optI _ (tiOf P T) ⟨fun i => @optI _ (avCells i.zero) ⟨fun cs => cs.length = i.size ∧ @newI M ⟨fun id => K (.l (.ptr id 0 0)) (M.set id (.cells T [cs] 0))⟩⟩⟩ := rfl
theorem vo_box (T : TypeId) (x : Operand) : vopc P (.box T x) fr M K = @optI _ (tiOf P T) ⟨fun i => @optI _ (avCells (ev fr x)) ⟨fun cs => cs.length = i.size ∧ @newI M ⟨fun id => K (.l (.ptr id 0 0)) (M.set id (.cells T [cs] 0))⟩⟩⟩ := rfl
theorem vo_build (t : TypeId) (l : List (Nat × Operand)) : vopc P (.build t l.toArray) fr M K = @optI _ (buildA P t (l.map fun p => (p.1, ev fr p.2))) ⟨fun v => K v M⟩ := rfl
theorem vo_buildSlice (t : TypeId) (len : Nat) (l : List (Nat × Operand)) : vopc P (.buildSlice t len l.toArray) fr M K = @optI _ (buildSliceA P t len (l.map fun p => (p.1, ev fr p.2))) ⟨fun r => @newI M ⟨fun id => K (.l (.ms id 0 len)) (M.set id (.cells r.1 r.2 0))⟩⟩ := rfl
theorem vo_load (t : TypeId) (x : Operand) : vopc P (.load t x) fr M K = @optI _ (loadA P M t (ev fr x)) ⟨fun v => K v M⟩ := rfl
theorem vo_store (t : TypeId) (x v : Operand) : vopc P (.store t x v) fr M K = @optI _ (storeA P M t (ev fr x) (ev fr v)) ⟨fun M' => K .any M'⟩ := rfl
theorem vo_nilCheck (x : Operand) : vopc P (.nilCheck x) fr M K = @optI _ (nilChk (ev fr x)) ⟨fun v => K v M⟩ := rfl
theorem vo_binOp (op : BinOp) (t : TypeId) (x y : Operand) (u : TypeId) : vopc P (.binOp op t x y u) fr M K = @binI P op t x y (ev fr x) (ev fr y) ⟨fun v => K v M⟩ := rfl
theorem vo_unOp (op : UnOp) (t : TypeId) (x : Operand) : vopc P (.unOp op t x) fr M K = @optI _ (unA op (ev fr x)) ⟨fun v => K v M⟩ := rfl
theorem vo_convert (s d : TypeId) (x : Operand) : vopc P (.convert s d x) fr M K = @optI _ (convA P s d (ev fr x)) ⟨fun v => K v M⟩ := rfl
theorem vo_makeFunc (f : FuncId) (l : List Operand) : vopc P (.makeFunc (.func f) #[] l.toArray) fr M K = @optI _ (capsA (l.map (ev fr))) ⟨fun cs => K (.l (.clo f cs)) M⟩ := by simp [vopc, vopcG, optI]
theorem vo_makeSlice (t : TypeId) (l c : Operand) : vopc P (.makeSlice t l c) fr M K = @optI _ (makeSliceA P t (ev fr l) (ev fr c)) ⟨fun r => @newI M ⟨fun id => K (.l (.ms id 0 r.2.length)) (M.set id (.cells r.1 r.2 0))⟩⟩ := rfl
theorem vo_makeMap (t : TypeId) : vopc P (.makeMap t none) fr M K = @newI M ⟨fun id => K (.l (.mp id)) (M.set id (.map []))⟩ := rfl
theorem vo_slice (t : TypeId) (x : Operand) (lo hi mx : Option Operand) : vopc P (.slice t x lo hi mx) fr M K = @optI _ (sliceA P M t (ev fr x) (lo.map (ev fr)) (hi.map (ev fr)) (mx.map (ev fr))) ⟨fun v => K v M⟩ := rfl
theorem vo_fieldAddr (s : TypeId) (x : Operand) (f : Nat) : vopc P (.fieldAddr s x f) fr M K = @optI _ (fieldAddrA P s (ev fr x) f) ⟨fun v => K v M⟩ := rfl
theorem vo_field (s : TypeId) (x : Operand) (f : Nat) : vopc P (.field s x f) fr M K = @optI _ (fieldA P s (ev fr x) f) ⟨fun v => K v M⟩ := rfl
theorem vo_indexAddr (t : TypeId) (x i : Operand) : vopc P (.indexAddr t x i) fr M K = @optI _ (indexAddrA P M t (ev fr x) (ev fr i)) ⟨fun v => K v M⟩ := rfl
theorem vo_index (t : TypeId) (x i : Operand) : vopc P (.index t x i) fr M K = @optI _ (indexA P t (ev fr x) (ev fr i)) ⟨fun v => K v M⟩ := rfl
theorem vo_lookup (t : TypeId) (m k : Operand) (ok : Bool) : vopc P (.lookup t m k ok) fr M K = @optI _ (lookupA P M t (ev fr m) (ev fr k) ok) ⟨fun v => K v M⟩ := rfl
theorem vo_mapUpdate (t : TypeId) (m k v : Operand) : vopc P (.mapUpdate t m k v) fr M K = @optI _ (mapUpdA P M t (ev fr m) (ev fr k) (ev fr v)) ⟨fun M' => K .any M'⟩ := rfl
theorem vo_extract (x : Operand) (i : Nat) : vopc P (.extract x i) fr M K = @optI _ (extractA (ev fr x) i) ⟨fun v => K v M⟩ := rfl
theorem vo_call (f : FuncId) (l : List Operand) (ts : Array TypeId) : vopc P (.call ⟨.value (.func f), l.toArray, ts⟩) fr M K = @callI P f (l.map (ev fr)) M ⟨K⟩ := rfl
theorem vo_calld (t : Tmp) (l : List Operand) (ts : Array TypeId) : vopc P (.call ⟨.value (.tmp t), l.toArray, ts⟩) fr M K = @dynI P (fr t) (l.map (ev fr)) M ⟨K⟩ := rfl
theorem vo_built (b : Builtin) (l : List Operand) (ts : List TypeId) : vopc P (.call ⟨.builtin b, l.toArray, ts.toArray⟩) fr M K = @builtI P b ts (l.map (ev fr)) M ⟨K⟩ := rfl
end

theorem dynI_clo (P : Program) (f : FuncId) (cs : List Lf) (args : List AV) (M : Mem) (K : AV → Mem → Prop) : @dynI P (.l (.clo f cs)) args M ⟨K⟩ = @callI P f (args ++ cs.map .l) M ⟨K⟩ := rfl
theorem pickA_true (x y : AV) : pickA true x y = x := rfl
theorem pickA_false (x y : AV) : pickA false x y = y := rfl
theorem pickA_and (t x : Bool) : pickA t (.l (.bool x)) (.l (.bool false)) = .l (.bool (t && x)) := by cases t <;> rfl
theorem pickA_or (t y : Bool) : pickA t (.l (.bool true)) (.l (.bool y)) = .l (.bool (t || y)) := by cases t <;> rfl

theorem argFr_0 (x : AV) (xs : List AV) : argFr (x :: xs) 0 = x := rfl
theorem argFr_s (x : AV) (xs : List AV) (i : Nat) : argFr (x :: xs) (i + 1) = argFr xs i := rfl

theorem binI_int (P : Program) (op : BinOp) (t : TypeId) (x y : Operand) (k : IntKind) (n m : Int) (K : AV → Prop) : @binI P op t x y (.l (.int k n)) (.l (.int k m)) ⟨K⟩ = @optI _ (arithA op k n m) ⟨fun v => K (.l v)⟩ := by simp [binI, binK, optI]
theorem binI_eql (P : Program) (t : TypeId) (x y : Operand) (a b : AV) (h : isNilS y = false) (h' : ∀ k n, a ≠ .l (.int k n)) (K : AV → Prop) : @binI P .eql t x y a b ⟨K⟩ = @optI _ (eqA P t a b) ⟨fun r => K (.l (.bool r))⟩ := by
  simp only [binI, binK, optI]
  split
  · rename_i k n k' m; exact absurd rfl (h' k n)
  · rw [h]; rfl
theorem binI_neq (P : Program) (t : TypeId) (x y : Operand) (a b : AV) (h : isNilS y = false) (h' : ∀ k n, a ≠ .l (.int k n)) (K : AV → Prop) : @binI P .neq t x y a b ⟨K⟩ = @optI _ (eqA P t a b) ⟨fun r => K (.l (.bool (!r)))⟩ := by
  simp only [binI, binK, optI]
  split
  · rename_i k n k' m; exact absurd rfl (h' k n)
  · rw [h]; rfl
theorem eql_agg (P : Program) (t : TypeId) (x y : Operand) (xs ys : List Lf) (h : isNilS y = false) (K : AV → Prop) : @binI P .eql t x y (.agg xs) (.agg ys) ⟨K⟩ = @optI _ (eqA P t (.agg xs) (.agg ys)) ⟨fun r => K (.l (.bool r))⟩ := binI_eql P t x y _ _ h (fun _ _ h => by cases h) K
theorem neq_agg (P : Program) (t : TypeId) (x y : Operand) (xs ys : List Lf) (h : isNilS y = false) (K : AV → Prop) : @binI P .neq t x y (.agg xs) (.agg ys) ⟨K⟩ = @optI _ (eqA P t (.agg xs) (.agg ys)) ⟨fun r => K (.l (.bool (!r)))⟩ := binI_neq P t x y _ _ h (fun _ _ h => by cases h) K
theorem eql_bool (P : Program) (t : TypeId) (x y : Operand) (a b : Bool) (h : isNilS y = false) (K : AV → Prop) : @binI P .eql t x y (.l (.bool a)) (.l (.bool b)) ⟨K⟩ = @optI _ (eqA P t (.l (.bool a)) (.l (.bool b))) ⟨fun r => K (.l (.bool r))⟩ := binI_eql P t x y _ _ h (fun _ _ h => by cases h) K
theorem neq_bool (P : Program) (t : TypeId) (x y : Operand) (a b : Bool) (h : isNilS y = false) (K : AV → Prop) : @binI P .neq t x y (.l (.bool a)) (.l (.bool b)) ⟨K⟩ = @optI _ (eqA P t (.l (.bool a)) (.l (.bool b))) ⟨fun r => K (.l (.bool (!r)))⟩ := binI_neq P t x y _ _ h (fun _ _ h => by cases h) K
theorem eql_str (P : Program) (t : TypeId) (x y : Operand) (a b : ByteArray) (h : isNilS y = false) (K : AV → Prop) : @binI P .eql t x y (.l (.str a)) (.l (.str b)) ⟨K⟩ = K (.l (.bool (decide (a = b)))) := by rw [binI_eql P t x y _ _ h (fun _ _ h => by cases h) K]; rfl
theorem neq_str (P : Program) (t : TypeId) (x y : Operand) (a b : ByteArray) (h : isNilS y = false) (K : AV → Prop) : @binI P .neq t x y (.l (.str a)) (.l (.str b)) ⟨K⟩ = K (.l (.bool (!decide (a = b)))) := by rw [binI_neq P t x y _ _ h (fun _ _ h => by cases h) K]; rfl
theorem eql_nilp (P : Program) (t : TypeId) (x y : Operand) (a : Lf) (h : isNilS y = false) (h' : ∀ k n, a ≠ .int k n) (K : AV → Prop) : @binI P .eql t x y (.l a) (.l .nilp) ⟨K⟩ = @optI _ (eqA P t (.l a) (.l .nilp)) ⟨fun r => K (.l (.bool r))⟩ := binI_eql P t x y _ _ h (fun k n e => by cases e; exact h' k n rfl) K
theorem neq_nilp (P : Program) (t : TypeId) (x y : Operand) (a : Lf) (h : isNilS y = false) (h' : ∀ k n, a ≠ .int k n) (K : AV → Prop) : @binI P .neq t x y (.l a) (.l .nilp) ⟨K⟩ = @optI _ (eqA P t (.l a) (.l .nilp)) ⟨fun r => K (.l (.bool (!r)))⟩ := binI_neq P t x y _ _ h (fun k n e => by cases e; exact h' k n rfl) K
theorem eql_nils (P : Program) (t : TypeId) (x : Operand) (a : AV) (b : AV) (h : ∀ k n, a ≠ .l (.int k n)) (K : AV → Prop) : @binI P .eql t x (.const (.slice none 0 0)) a b ⟨K⟩ = @optI _ (tiOf P t) ⟨fun i => match i.d with | .slice _ => @nilSI false a ⟨K⟩ | _ => False⟩ := by
  simp only [binI, binK]
  split
  · rename_i k n k' m; exact absurd rfl (h k n)
  · simp only [isNilS, if_true, optI, optK]
    cases tiOf P t <;> rfl
theorem neq_nils (P : Program) (t : TypeId) (x : Operand) (a : AV) (b : AV) (h : ∀ k n, a ≠ .l (.int k n)) (K : AV → Prop) : @binI P .neq t x (.const (.slice none 0 0)) a b ⟨K⟩ = @optI _ (tiOf P t) ⟨fun i => match i.d with | .slice _ => @nilSI true a ⟨K⟩ | _ => False⟩ := by
  simp only [binI, binK]
  split
  · rename_i k n k' m; exact absurd rfl (h k n)
  · simp only [isNilS, if_true, optI, optK]
    cases tiOf P t <;> rfl
theorem ar_add (k : IntKind) (x y : Int) : arithA .add k x y = some (.int k (k.wrap (x + y))) := rfl
theorem ar_sub (k : IntKind) (x y : Int) : arithA .sub k x y = some (.int k (k.wrap (x - y))) := rfl
theorem ar_mul (k : IntKind) (x y : Int) : arithA .mul k x y = some (.int k (k.wrap (x * y))) := rfl
theorem ar_rem (k : IntKind) (x y : Int) : arithA .rem k x y = if y = 0 then none else some (.int k (x.tmod y)) := rfl
theorem ar_quo (k : IntKind) (x y : Int) : arithA .quo k x y = if y = 0 then none else some (.int k (k.wrap (x.tdiv y))) := rfl
theorem ar_and (k : IntKind) (x y : Int) : arithA .and k x y = some (.int k (bitsA .and k x y)) := rfl
theorem ar_or (k : IntKind) (x y : Int) : arithA .or k x y = some (.int k (bitsA .or k x y)) := rfl
theorem ar_xor (k : IntKind) (x y : Int) : arithA .xor k x y = some (.int k (bitsA .xor k x y)) := rfl
theorem ar_shl (k : IntKind) (x : Int) {y : Int} (h : 0 ≤ y) : arithA .shl k x y = some (.int k (k.wrap (x * 2 ^ (min y.toNat k.bits)))) := if_neg (by omega)
theorem ar_shr (k : IntKind) (x : Int) {y : Int} (h : 0 ≤ y) : arithA .shr k x y = some (.int k (x.fdiv (2 ^ (min y.toNat k.bits)))) := if_neg (by omega)
theorem binI_shr (P : Program) (t : TypeId) (x y : Operand) (n m : Int) (h : 0 ≤ m) (K : AV → Prop) : @binI P .shr t x y (.l (.int .i64 n)) (.l (.int .u64 m)) ⟨K⟩ = K (.l (.int .i64 (n.fdiv (2 ^ (min m.toNat 64))))) := by
  have e : shiftA .shr .i64 n m = some (.int .i64 (n.fdiv (2 ^ (min m.toNat 64)))) := if_neg (by omega)
  simp [binI, binK, e, optK]
theorem binI_shl (P : Program) (t : TypeId) (x y : Operand) (n m : Int) (h : 0 ≤ m) (K : AV → Prop) : @binI P .shl t x y (.l (.int .i64 n)) (.l (.int .u64 m)) ⟨K⟩ = K (.l (.int .i64 (IntKind.i64.wrap (n * 2 ^ (min m.toNat 64))))) := by
  have e : shiftA .shl .i64 n m = some (.int .i64 (IntKind.i64.wrap (n * 2 ^ (min m.toNat 64)))) := if_neg (by omega)
  simp [binI, binK, e, optK]
theorem ar_eql (k : IntKind) (x y : Int) : arithA .eql k x y = some (.bool (decide (x = y))) := rfl
theorem ar_neq (k : IntKind) (x y : Int) : arithA .neq k x y = some (.bool (decide (x ≠ y))) := rfl
theorem ar_lss (k : IntKind) (x y : Int) : arithA .lss k x y = some (.bool (decide (x < y))) := rfl
theorem ar_leq (k : IntKind) (x y : Int) : arithA .leq k x y = some (.bool (decide (x ≤ y))) := rfl
theorem ar_gtr (k : IntKind) (x y : Int) : arithA .gtr k x y = some (.bool (decide (x > y))) := rfl
theorem ar_geq (k : IntKind) (x y : Int) : arithA .geq k x y = some (.bool (decide (x ≥ y))) := rfl

theorem wrap_in {n : Int} (h : -9223372036854775808 ≤ n) (h' : n ≤ 9223372036854775807) : IntKind.i64.wrap n = n := by rw [IntKind.wrap_i64]; omega

theorem bk_len (P : Program) (t : TypeId) (x : AV) (M : Mem) (K : AV → Mem → Prop) : @builtI P .len [t] [x] M ⟨K⟩ = @optI _ (lenA P M t x) ⟨fun v => K v M⟩ := rfl
theorem bk_append (P : Program) (t tx : TypeId) (s x : AV) (M : Mem) (K : AV → Mem → Prop) : @builtI P .append [t, tx] [s, x] M ⟨K⟩ = @appI P M t tx s x ⟨K⟩ := rfl
theorem bk_clear (P : Program) (t : TypeId) (x : AV) (M : Mem) (K : AV → Mem → Prop) : @builtI P .clear [t] [x] M ⟨K⟩ = @optI _ (clearA P M t x) ⟨fun M' => K .any M'⟩ := rfl
theorem bk_delete (P : Program) (t : TypeId) (ts : List TypeId) (m k : AV) (M : Mem) (K : AV → Mem → Prop) : @builtI P .delete (t :: ts) [m, k] M ⟨K⟩ = @optI _ (mapDelA P M t m k) ⟨fun M' => K .any M'⟩ := rfl
theorem bk_cap (P : Program) (t : TypeId) (M : Mem) (K : AV → Mem → Prop) : @builtI P .cap [t] [.l .nils] M ⟨K⟩ = @optI _ (tiOf P t) ⟨fun i => match i.d with | .slice _ => K (.l (.int .i64 0)) M | _ => False⟩ := by simp only [builtI, builtK, builtG, optI, optK]; cases tiOf P t <;> rfl
theorem bk_min (P : Program) (t t' : TypeId) (k : IntKind) (x y : Int) (M : Mem) (K : AV → Mem → Prop) : @builtI P .min [t, t'] [.l (.int k x), .l (.int k y)] M ⟨K⟩ = K (.l (.int k (if y < x then y else x))) M := rfl
theorem bk_max (P : Program) (t t' : TypeId) (k : IntKind) (x y : Int) (M : Mem) (K : AV → Mem → Prop) : @builtI P .max [t, t'] [.l (.int k x), .l (.int k y)] M ⟨K⟩ = K (.l (.int k (if y > x then y else x))) M := rfl

/-- append to a slice of a live block. -/
theorem app_ms (P : Program) (M : Mem) (t tx e : TypeId) (ti te : TI) (hti : tiOf P t = some ti) (hd : ti.d = .slice e) (hte : tiOf P e = some te) (hz : zeroFits P e = true) (hpos : 0 < te.size) (id len : Nat) (x : AV) {rows : List (List Lf)} {keep : Nat} (src : List (List Lf))
    (hM : M id = some (.cells e rows keep)) (hsrc : srcRows P M t tx e te x = some src) (hl : len ≤ rows.length) (hk : keep ≤ len) (hb : (len + src.length) * te.bytes ≤ 140737488355328) (hb' : len + src.length ≤ 140737488355328) {K : AV → Mem → Prop}
    (h : ∀ id', (∀ j, id' ≤ j → M j = none) → K (.l (.ms id' 0 (len + src.length))) ((M.del id).set id' (.cells e (rows.take len ++ src) keep))) : @appI P M t tx (.l (.ms id 0 len)) x ⟨K⟩ := by
  show appendA (newK M) P M t tx (.l (.ms id 0 len)) x K
  rw [appendA_ms]
  unfold appendG
  simp only [hti, hd, hte, hsrc, optK, hM]
  exact ⟨hz, hpos, trivial, hl, hk, hb, hb', h⟩
/-- append to a slice that is nil, or has no room. -/
theorem app_nils (P : Program) (M : Mem) (t tx e : TypeId) (ti te : TI) (hti : tiOf P t = some ti) (hd : ti.d = .slice e) (hte : tiOf P e = some te) (hz : zeroFits P e = true) (hpos : 0 < te.size) (x : AV) (src : List (List Lf))
    (hsrc : srcRows P M t tx e te x = some src) (hb : src.length * te.bytes ≤ 140737488355328) (hb' : src.length ≤ 140737488355328) {K : AV → Mem → Prop}
    (h0 : src = [] → K (.l .nils) M) (h : src ≠ [] → ∀ id', (∀ j, id' ≤ j → M j = none) → K (.l (.ms id' 0 src.length)) (M.set id' (.cells e src 0))) : @appI P M t tx (.l .nils) x ⟨K⟩ := by
  show appendA (newK M) P M t tx (.l .nils) x K
  have e : appendA (newK M) P M t tx (.l .nils) x K = appendG (newK M) P M t tx (.l .nils) x K := by
    unfold appendA
    split
    · exfalso
      unfold srcRows at hsrc
      split at hsrc
      · cases hsrc
      · split at hsrc
        · rename_i h; cases h
        · cases hsrc
    · rfl
  rw [e]
  unfold appendG
  simp only [hti, hd, hte, hsrc, optK]
  exact ⟨hz, hpos, h0, fun hne => ⟨hb, hb', h hne⟩⟩

/-- append of zeros to a slice that is nil. -/
theorem app_zeros (P : Program) (M : Mem) (t tx e : TypeId) (ti tj te : TI) (hti : tiOf P t = some ti) (hd : ti.d = .slice e) (htj : tiOf P tx = some tj) {k : IntKind} (hdj : tj.d = .int k) (hte : tiOf P e = some te) (hz : zeroFits P e = true) {z : List Lf} (hzc : avCells te.zero = some z) (hzl : z.length = te.size) (hpos : 0 < te.size)
    (n : Int) (hn : 0 < n) (hb : n.toNat * te.bytes ≤ 140737488355328) (hb' : n ≤ 140737488355328) {K : AV → Mem → Prop}
    (h : ∀ id', (∀ j, id' ≤ j → M j = none) → K (.l (.ms id' 0 n.toNat)) (M.set id' (.cells e (List.replicate n.toNat z) 0))) : @appI P M t tx (.l .nils) (.l (.int .i64 n)) ⟨K⟩ := by
  show appendZ (newK M) P M t tx n K
  unfold appendZ
  simp only [hti, htj, hd, hdj, hte, hzc]
  exact ⟨hz, hzl, hpos, hn, hb, hb', h⟩

theorem Mem.set_eq (M : Mem) (id : Nat) (b : Blk) : (M.set id b) id = some b := by simp [Mem.set]
theorem Mem.set_ne (M : Mem) (id i : Nat) (b : Blk) (h : id ≠ i) : (M.set id b) i = M i := by simp [Mem.set, h]
theorem Mem.del_eq (M : Mem) (id : Nat) : (M.del id) id = none := by simp [Mem.del]
theorem Mem.del_ne (M : Mem) (id i : Nat) (h : id ≠ i) : (M.del id) i = M i := by simp [Mem.del, h]
theorem Mem.set_set (M : Mem) (id : Nat) (b b' : Blk) : (M.set id b).set id b' = M.set id b' := by funext i; simp only [Mem.set]; split <;> rfl
theorem lt_of_bnd {M : Mem} {i id : Nat} {b : Blk} (h : ∀ j, id ≤ j → M j = none) (hi : M i = some b) : i < id := by
  rcases Nat.lt_or_ge i id with h' | h'
  · exact h'
  · rw [h i h'] at hi; cases hi
theorem bnd_set {M : Mem} {i id : Nat} {b : Blk} (h : ∀ j, id ≤ j → (M.set i b) j = none) : i < id ∧ ∀ j, id ≤ j → M j = none := by
  have hi : i < id := lt_of_bnd h (Mem.set_eq M i b)
  exact ⟨hi, fun j hj => by have := h j hj; rwa [Mem.set_ne M i j b (by omega)] at this⟩
theorem bnd_del {M : Mem} {i id : Nat} (h : ∀ j, id ≤ j → (M.del i) j = none) (hi : i < id) : ∀ j, id ≤ j → M j = none := fun j hj => by have := h j hj; rwa [Mem.del_ne M i j (by omega)] at this

theorem rowOf_some {M : Mem} {id : Nat} {T : TypeId} {rows : List (List Lf)} {keep : Nat} (h : M id = some (.cells T rows keep)) (r c : Nat) : rowOf M id r c = (rows[r]?).map (·.drop c) := by simp [rowOf, h]

end Go.X
