/- Texts joined: Xm Xo Xp Xq Xr Xs Xt Xu Xv Xw Wa Xx Xy Xn Xz Ya Yb Yh Wb Wc Wd Wh Va Za Yg. -/
import Derived.Orders
import Derived.SizedLaws
import Derived.ChangeSlices
import Derived.Test.YtkbcijgbhkahlaaDoorProg
import Derived.KernelRfl
import Derived.WalkKit
import Derived.ProofKit
import Derived.OpenShut
import Derived.ShutString
import Derived.ChangeOld
import Derived.Below
import Derived.Carry
import Derived.Lib.LaidTab
import Derived.Test.YtkbcijgbhkahlaaDoorY1
set_option linter.unusedVariables false
set_option linter.unusedSimpArgs false
set_option linter.unusedSectionVars false
set_option maxRecDepth 100000
namespace Go.X
open Go.RowKit

/-! Continuations stand as instances: simp doesn't look into them. -/
class Kon (α : Type) where
  k : α → Prop
class Kon2 where
  k : AV → Mem → Prop
class KonF where
  k : Fr → Mem → Prop
class KonQ where
  k : XE → Fr → Mem → Prop
class PrA where
  p : Prop
class PrB where
  p : Prop

def optI {α : Type} (o : Option α) [c : Kon α] : Prop := optK o c.k
theorem optI_some {α : Type} (a : α) (f : α → Prop) : @optI α (some a) ⟨f⟩ = f a := rfl
theorem optI_none {α : Type} (f : α → Prop) : @optI α none ⟨f⟩ = False := rfl
def condI (t : AV) [a : PrA] [b : PrB] : Prop := condK t a.p b.p
theorem condI_true (A B : Prop) : @condI (.l (.bool true)) ⟨A⟩ ⟨B⟩ = A := condK_true A B
theorem condI_false (A B : Prop) : @condI (.l (.bool false)) ⟨A⟩ ⟨B⟩ = B := condK_false A B
theorem condI_intro {b : Bool} {A B : Prop} (h : b = true → A) (h' : b = false → B) : @condI (.l (.bool b)) ⟨A⟩ ⟨B⟩ := ⟨h, h'⟩
def gI (t : AV) (u : Bool) [a : PrA] [b : PrB] : Prop := gK t u a.p b.p
theorem gI_tt (A B : Prop) : @gI (.l (.bool true)) true ⟨A⟩ ⟨B⟩ = A := gK_true_true A B
theorem gI_ff (A B : Prop) : @gI (.l (.bool false)) false ⟨A⟩ ⟨B⟩ = A := gK_false_false A B
theorem gI_tf (A B : Prop) : @gI (.l (.bool true)) false ⟨A⟩ ⟨B⟩ = B := gK_true_false A B
theorem gI_ft (A B : Prop) : @gI (.l (.bool false)) true ⟨A⟩ ⟨B⟩ = B := gK_false_true A B
theorem gI_skip (u : Bool) (A B : Prop) : @gI (.tup []) u ⟨A⟩ ⟨B⟩ = B := gK_skip u A B
def valI (v : AV) [c : Kon AV] : Prop := c.k v
theorem valI_l (x : Lf) (f : AV → Prop) : @valI (.l x) ⟨f⟩ = f (.l x) := rfl
theorem valI_agg (cs : List Lf) (f : AV → Prop) : @valI (.agg cs) ⟨f⟩ = f (.agg cs) := rfl
theorem valI_tup (vs : List AV) (f : AV → Prop) : @valI (.tup vs) ⟨f⟩ = f (.tup vs) := rfl
theorem valI_any (f : AV → Prop) : @valI .any ⟨f⟩ = f .any := rfl
def pickI (c x y : AV) [k : Kon AV] : Prop := pickK c x y k.k
theorem pickI_bool (t : Bool) (x y : AV) (f : AV → Prop) : @pickI (.l (.bool t)) x y ⟨f⟩ = @valI (pickA t x y) ⟨f⟩ := rfl
def newI (M : Mem) [c : Kon Nat] : Prop := newK M c.k
theorem newI_intro {M : Mem} {f : Nat → Prop} (h : ∀ id, (∀ j, id ≤ j → M j = none) → f id) : @newI M ⟨f⟩ := h
def binI (P : Program) (op : BinOp) (t : TypeId) (x y : Operand) (a b : AV) [c : Kon AV] : Prop := binK P op t x y a b c.k
def nilSI (q : Bool) (x : AV) [c : Kon AV] : Prop := nilSK q x c.k
theorem nilSI_ms (q : Bool) (id off len : Nat) (f : AV → Prop) : @nilSI q (.l (.ms id off len)) ⟨f⟩ = f (.l (.bool q)) := rfl
theorem nilSI_sl (q : Bool) {rows : List (List Lf)} {f : AV → Prop} (h : rows = [] → ∀ b, f (.l (.bool b))) (h' : rows ≠ [] → f (.l (.bool q))) : @nilSI q (.l (.sl rows)) ⟨f⟩ := ⟨h, h'⟩
def appI (P : Program) (M : Mem) (t tx : TypeId) (s x : AV) [c : Kon2] : Prop := appendA (newK M) P M t tx s x c.k
def builtI (P : Program) (b : Builtin) (ts : List TypeId) (xs : List AV) (M : Mem) [c : Kon2] : Prop := builtK P b ts xs M c.k
def dynI (P : Program) (t : AV) (args : List AV) (M : Mem) [c : Kon2] : Prop := dynK P t args M c.k
def callI (P : Program) (f : FuncId) (args : List AV) (M : Mem) [c : Kon2] : Prop := XCalls P f args M c.k
theorem callI_of {P : Program} {f : FuncId} {args : List AV} {M : Mem} {K : AV → Mem → Prop} (h : XCalls P f args M K) : @callI P f args M ⟨K⟩ := h
def loopI (P : Program) (n : Nat) (body : Code) (fr : Fr) (M : Mem) [c : KonQ] : Prop := XLoop P n body c.k fr M
theorem loopI_of {P : Program} {n : Nat} {body : Code} {Q : XE → Fr → Mem → Prop} {fr : Fr} {M : Mem} (h : XLoop P n body Q fr M) : @loopI P n body fr M ⟨Q⟩ := h
def drawI (P : Program) (n id : Nat) (ops : Array Oper) (fr : Fr) (M : Mem) [c : KonF] : Prop := XDraw P n id ops c.k fr M
theorem drawI_of {P : Program} {n id : Nat} {ops : Array Oper} {K : Fr → Mem → Prop} {fr : Fr} {M : Mem} (h : XDraw P n id ops K fr M) : @drawI P n id ops fr M ⟨K⟩ := h
def finI (P : Program) (v : AV) (M : Mem) [c : Kon2] : Prop := XFin P v M c.k
theorem finI_of {P : Program} {v : AV} {M : Mem} {K : AV → Mem → Prop} (h : XFin P v M K) : @finI P v M ⟨K⟩ := h

section
variable (P : Program) (n : Nat) (Q : XE → Fr → Mem → Prop) (fr : Fr) (M : Mem) (K : AV → Mem → Prop)
theorem vops_plain' (ops : List Oper) (dst : Option Tmp) (op : Op) (type : TypeId) (pos : String) (after : Array Edge) (rest : List Oper) (K : Fr → Mem → Prop) :
    vops P ops (⟨dst, op, type, pos, after, none⟩ :: rest) K fr M = vopc P op fr M fun v M' => vops P ops rest K (updO fr dst v) M' := rfl
theorem vops_guard' (ops : List Oper) (dst : Option Tmp) (op : Op) (type : TypeId) (pos : String) (after : Array Edge) (j : Nat) (u : Bool) (rest : List Oper) (K : Fr → Mem → Prop) :
    vops P ops (⟨dst, op, type, pos, after, some (j, u)⟩ :: rest) K fr M = @optI _ (gslot ops j) ⟨fun d => @gI (fr d) u ⟨vopc P op fr M fun v M' => vops P ops rest K (updO fr dst v) M'⟩ ⟨vops P ops rest K (updO fr dst (.tup [])) M⟩⟩ := by
  rw [vops_guard]
  unfold optI optK
  cases gslot ops j <;> rfl
theorem retQ_normal' (rs : List ResultVar) (K : AV → Mem → Prop) : retQ P rs K .normal fr M = @optI _ (retA P rs fr M) ⟨fun v => @finI P v M ⟨K⟩⟩ := rfl
theorem retQ_ret' (rs : List ResultVar) (K : AV → Mem → Prop) : retQ P rs K .ret fr M = @optI _ (retA P rs fr M) ⟨fun v => @finI P v M ⟨K⟩⟩ := rfl
theorem vc_skip : vc P n .skip Q fr M = Q .normal fr M := rfl
theorem vc_ret : vc P n .ret Q fr M = Q .ret fr M := rfl
theorem vc_exit (id : Nat) : vc P n (.exit id) Q fr M = Q (.exit id) fr M := rfl
theorem vc_seq (a b : Code) : vc P n (.seq a b) Q fr M = vc P n a (seqQ (vc P n b Q) Q) fr M := rfl
theorem vc_cond (c : Operand) (a b : Code) : vc P n (.cond c a b) Q fr M = @condI (ev fr c) ⟨vc P n a Q fr M⟩ ⟨vc P n b Q fr M⟩ := rfl
theorem vc_block (id : Nat) (b : Code) : vc P n (.block id b) Q fr M = vc P n b (blockQ id Q) fr M := rfl
theorem vc_loop (b : Code) : vc P n (.loop b) Q fr M = @loopI P n b fr M ⟨Q⟩ := rfl
theorem vc_region (id : Nat) (l : List Oper) : vc P n (.region id l.toArray false) Q fr M = vops P l l (fun fr M => Q .normal fr M) fr M := rfl
theorem vc_draw (id : Nat) (l : List Oper) : vc P n (.region id l.toArray true) Q fr M = @drawI P n id l.toArray fr M ⟨fun fr M => Q .normal fr M⟩ := rfl

theorem vo_move (x : Operand) : vopc P (.move x) fr M K = @valI (ev fr x) ⟨fun v => K v M⟩ := rfl
theorem vo_assign (x : Operand) : vopc P (.assign x) fr M K = @valI (ev fr x) ⟨fun v => K v M⟩ := rfl
theorem vo_pick (c a b : Operand) : vopc P (.pick c a b) fr M K = @pickI (ev fr c) (ev fr a) (ev fr b) ⟨fun v => K v M⟩ := rfl
theorem vo_alloc (T : TypeId) : vopc P (.alloc T) fr M K = @optI _ (tiOf P T) ⟨fun i => @optI _ (avCells i.zero) ⟨fun cs => cs.length = i.size ∧ @newI M ⟨fun id => K (.l (.ptr id 0 0)) (M.set id (.cells T [cs] 0))⟩⟩⟩ := rfl
theorem vo_box (T : TypeId) (x : Operand) : vopc P (.box T x) fr M K = @optI _ (tiOf P T) ⟨fun i => @optI _ (avCells (ev fr x)) ⟨fun cs => cs.length = i.size ∧ @newI M ⟨fun id => K (.l (.ptr id 0 0)) (M.set id (.cells T [cs] 0))⟩⟩⟩ := rfl
theorem vo_build (t : TypeId) (l : List (Nat × Operand)) : vopc P (.build t l.toArray) fr M K = @optI _ (buildA P t (l.map fun p => (p.1, ev fr p.2))) ⟨fun v => K v M⟩ := rfl
theorem vo_buildSlice (t : TypeId) (len : Nat) (l : List (Nat × Operand)) : vopc P (.buildSlice t len l.toArray) fr M K = @optI _ (buildSliceA P t len (l.map fun p => (p.1, ev fr p.2))) ⟨fun r => @newI M ⟨fun id => K (.l (.ms id 0 len)) (M.set id (.cells r.1 r.2 0))⟩⟩ := rfl
theorem vo_load (t : TypeId) (x : Operand) : vopc P (.load t x) fr M K = @optI _ (loadA P M t (ev fr x)) ⟨fun v => K v M⟩ := rfl
theorem vo_store (t : TypeId) (x v : Operand) : vopc P (.store t x v) fr M K = @optI _ (storeA P M t (ev fr x) (ev fr v)) ⟨fun M' => K .any M'⟩ := rfl
theorem vo_nilCheck (x : Operand) : vopc P (.nilCheck x) fr M K = @optI _ (nilChk (ev fr x)) ⟨fun v => K v M⟩ := rfl
theorem vo_binOp (op : BinOp) (t : TypeId) (x y : Operand) (u : TypeId) : vopc P (.binOp op t x y u) fr M K = @binI P op t x y (ev fr x) (ev fr y) ⟨fun v => K v M⟩ := rfl
theorem vo_unOp (op : UnOp) (t : TypeId) (x : Operand) : vopc P (.unOp op t x) fr M K = @optI _ (unA op (ev fr x)) ⟨fun v => K v M⟩ := rfl
theorem vo_convert (s d : TypeId) (x : Operand) : vopc P (.convert s d x) fr M K = @optI _ (convM P M s d (ev fr x)) ⟨fun v => K v M⟩ := rfl
theorem vo_makeFunc (f : FuncId) (l : List Operand) : vopc P (.makeFunc (.func f) #[] l.toArray) fr M K = @optI _ (capsA (l.map (ev fr))) ⟨fun cs => K (.l (.clo f cs)) M⟩ := by simp [vopc, vopcG, optI]
theorem vo_makeSlice (t : TypeId) (l c : Operand) : vopc P (.makeSlice t l c) fr M K = @optI _ (makeSliceA P t (ev fr l) (ev fr c)) ⟨fun r => @newI M ⟨fun id => K (.l (.ms id 0 r.2.length)) (M.set id (.cells r.1 r.2 0))⟩⟩ := rfl
theorem vo_makeMap (t : TypeId) : vopc P (.makeMap t none) fr M K = @newI M ⟨fun id => K (.l (.mp id)) (M.set id (.map []))⟩ := rfl
theorem vo_slice (t : TypeId) (x : Operand) (lo hi mx : Option Operand) : vopc P (.slice t x lo hi mx) fr M K = @optI _ (sliceA P M t (ev fr x) (lo.map (ev fr)) (hi.map (ev fr)) (mx.map (ev fr))) ⟨fun v => K v M⟩ := rfl
theorem vo_fieldAddr (s : TypeId) (x : Operand) (f : Nat) : vopc P (.fieldAddr s x f) fr M K = @optI _ (fieldAddrA P s (ev fr x) f) ⟨fun v => K v M⟩ := rfl
theorem vo_field (s : TypeId) (x : Operand) (f : Nat) : vopc P (.field s x f) fr M K = @optI _ (fieldA P s (ev fr x) f) ⟨fun v => K v M⟩ := rfl
theorem vo_indexAddr (t : TypeId) (x i : Operand) : vopc P (.indexAddr t x i) fr M K = @optI _ (indexAddrA P M t (ev fr x) (ev fr i)) ⟨fun v => K v M⟩ := rfl
theorem vo_index (t : TypeId) (x i : Operand) : vopc P (.index t x i) fr M K = @optI _ (indexA P t (ev fr x) (ev fr i)) ⟨fun v => K v M⟩ := rfl
theorem vo_lookup (t : TypeId) (m k : Operand) (ok : Bool) : vopc P (.lookup t m k ok) fr M K = @optI _ (lookupA P M t (ev fr m) (ev fr k) ok) ⟨fun v => K v M⟩ := rfl
theorem vo_mapUpdate (t : TypeId) (m k v : Operand) : vopc P (.mapUpdate t m k v) fr M K = @optI _ (mapUpdA P M t (ev fr m) (ev fr k) (ev fr v)) ⟨fun M' => K .any M'⟩ := rfl
theorem vo_extract (x : Operand) (i : Nat) : vopc P (.extract x i) fr M K = @optI _ (extractA (ev fr x) i) ⟨fun v => K v M⟩ := rfl
theorem vo_call (f : FuncId) (l : List Operand) (ts : Array TypeId) : vopc P (.call ⟨.value (.func f), l.toArray, ts⟩) fr M K = @callI P f (l.map (ev fr)) M ⟨K⟩ := XCallsN_eq P f (l.map (ev fr)) M K
theorem vo_calld (t : Tmp) (l : List Operand) (ts : Array TypeId) : vopc P (.call ⟨.value (.tmp t), l.toArray, ts⟩) fr M K = @dynI P (fr t) (l.map (ev fr)) M ⟨K⟩ := rfl
theorem vo_built (b : Builtin) (l : List Operand) (ts : List TypeId) : vopc P (.call ⟨.builtin b, l.toArray, ts.toArray⟩) fr M K = @builtI P b ts (l.map (ev fr)) M ⟨K⟩ := rfl
end

theorem dynI_clo (P : Program) (f : FuncId) (cs : List Lf) (args : List AV) (M : Mem) (K : AV → Mem → Prop) : @dynI P (.l (.clo f cs)) args M ⟨K⟩ = @callI P f (args ++ cs.map .l) M ⟨K⟩ := rfl
theorem pickA_true (x y : AV) : pickA true x y = x := rfl
theorem pickA_false (x y : AV) : pickA false x y = y := rfl
theorem pickA_and (t x : Bool) : pickA t (.l (.bool x)) (.l (.bool false)) = .l (.bool (t && x)) := by cases t <;> rfl
theorem pickA_or (t y : Bool) : pickA t (.l (.bool true)) (.l (.bool y)) = .l (.bool (t || y)) := by cases t <;> rfl

theorem argFr_0 (x : AV) (xs : List AV) : argFr (x :: xs) 0 = x := rfl
theorem argFr_s (x : AV) (xs : List AV) (i : Nat) : argFr (x :: xs) (i + 1) = argFr xs i := rfl

theorem binI_int (P : Program) (op : BinOp) (t : TypeId) (x y : Operand) (k : IntKind) (n m : Int) (K : AV → Prop) : @binI P op t x y (.l (.int k n)) (.l (.int k m)) ⟨K⟩ = @optI _ (arithA op k n m) ⟨fun v => K (.l v)⟩ := by simp [binI, binK, optI]
theorem binI_eql (P : Program) (t : TypeId) (x y : Operand) (a b : AV) (h : isNilS y = false) (h' : ∀ k n, a ≠ .l (.int k n)) (K : AV → Prop) : @binI P .eql t x y a b ⟨K⟩ = @optI _ (eqY P t (cstB y) a b) ⟨fun r => K (.l (.bool r))⟩ := by
  simp only [binI, binK, optI]
  split
  · rename_i k n k' m; exact absurd rfl (h' k n)
  · rw [h]; rfl
theorem binI_neq (P : Program) (t : TypeId) (x y : Operand) (a b : AV) (h : isNilS y = false) (h' : ∀ k n, a ≠ .l (.int k n)) (K : AV → Prop) : @binI P .neq t x y a b ⟨K⟩ = @optI _ (eqY P t (cstB y) a b) ⟨fun r => K (.l (.bool (!r)))⟩ := by
  simp only [binI, binK, optI]
  split
  · rename_i k n k' m; exact absurd rfl (h' k n)
  · rw [h]; rfl
theorem eql_agg (P : Program) (t : TypeId) (x y : Operand) (xs ys : List Lf) (h : isNilS y = false) (K : AV → Prop) : @binI P .eql t x y (.agg xs) (.agg ys) ⟨K⟩ = @optI _ (eqA P t (.agg xs) (.agg ys)) ⟨fun r => K (.l (.bool r))⟩ := binI_eql P t x y _ _ h (fun _ _ h => by cases h) K
theorem neq_agg (P : Program) (t : TypeId) (x y : Operand) (xs ys : List Lf) (h : isNilS y = false) (K : AV → Prop) : @binI P .neq t x y (.agg xs) (.agg ys) ⟨K⟩ = @optI _ (eqA P t (.agg xs) (.agg ys)) ⟨fun r => K (.l (.bool (!r)))⟩ := binI_neq P t x y _ _ h (fun _ _ h => by cases h) K
theorem eql_bool (P : Program) (t : TypeId) (x y : Operand) (a b : Bool) (h : isNilS y = false) (K : AV → Prop) : @binI P .eql t x y (.l (.bool a)) (.l (.bool b)) ⟨K⟩ = @optI _ (eqA P t (.l (.bool a)) (.l (.bool b))) ⟨fun r => K (.l (.bool r))⟩ := binI_eql P t x y _ _ h (fun _ _ h => by cases h) K
theorem neq_bool (P : Program) (t : TypeId) (x y : Operand) (a b : Bool) (h : isNilS y = false) (K : AV → Prop) : @binI P .neq t x y (.l (.bool a)) (.l (.bool b)) ⟨K⟩ = @optI _ (eqA P t (.l (.bool a)) (.l (.bool b))) ⟨fun r => K (.l (.bool (!r)))⟩ := binI_neq P t x y _ _ h (fun _ _ h => by cases h) K
theorem eql_str (P : Program) (t : TypeId) (x y : Operand) (a b : ByteArray) (h : isNilS y = false) (K : AV → Prop) : @binI P .eql t x y (.l (.str a)) (.l (.str b)) ⟨K⟩ = K (.l (.bool (decide (a = b)))) := by rw [binI_eql P t x y _ _ h (fun _ _ h => by cases h) K]; rfl
theorem neq_str (P : Program) (t : TypeId) (x y : Operand) (a b : ByteArray) (h : isNilS y = false) (K : AV → Prop) : @binI P .neq t x y (.l (.str a)) (.l (.str b)) ⟨K⟩ = K (.l (.bool (!decide (a = b)))) := by rw [binI_neq P t x y _ _ h (fun _ _ h => by cases h) K]; rfl
theorem eql_nilp (P : Program) (t : TypeId) (x y : Operand) (a : Lf) (h : isNilS y = false) (h' : ∀ k n, a ≠ .int k n) (K : AV → Prop) : @binI P .eql t x y (.l a) (.l .nilp) ⟨K⟩ = @optI _ (eqA P t (.l a) (.l .nilp)) ⟨fun r => K (.l (.bool r))⟩ := binI_eql P t x y _ _ h (fun k n e => by cases e; exact h' k n rfl) K
theorem neq_nilp (P : Program) (t : TypeId) (x y : Operand) (a : Lf) (h : isNilS y = false) (h' : ∀ k n, a ≠ .int k n) (K : AV → Prop) : @binI P .neq t x y (.l a) (.l .nilp) ⟨K⟩ = @optI _ (eqA P t (.l a) (.l .nilp)) ⟨fun r => K (.l (.bool (!r)))⟩ := binI_neq P t x y _ _ h (fun k n e => by cases e; exact h' k n rfl) K
theorem eql_nili (P : Program) (t : TypeId) (x : Operand) (a : AV) (h' : ∀ k n, a ≠ .l (.int k n)) (K : AV → Prop) : @binI P .eql t x (.const .nilIface) a (.l .nili) ⟨K⟩ = @optI _ (eqY P t true a (.l .nili)) ⟨fun r => K (.l (.bool r))⟩ := binI_eql P t x _ _ _ rfl h' K
theorem eql_nils (P : Program) (t : TypeId) (x : Operand) (a : AV) (b : AV) (h : ∀ k n, a ≠ .l (.int k n)) (K : AV → Prop) : @binI P .eql t x (.const (.slice none 0 0)) a b ⟨K⟩ = @optI _ (tiOf P t) ⟨fun i => match i.d with | .slice _ => @nilSI false a ⟨K⟩ | _ => False⟩ := by
  simp only [binI, binK]
  split
  · rename_i k n k' m; exact absurd rfl (h k n)
  · simp only [isNilS, if_true, optI, optK]
    cases tiOf P t <;> rfl
theorem neq_nils (P : Program) (t : TypeId) (x : Operand) (a : AV) (b : AV) (h : ∀ k n, a ≠ .l (.int k n)) (K : AV → Prop) : @binI P .neq t x (.const (.slice none 0 0)) a b ⟨K⟩ = @optI _ (tiOf P t) ⟨fun i => match i.d with | .slice _ => @nilSI true a ⟨K⟩ | _ => False⟩ := by
  simp only [binI, binK]
  split
  · rename_i k n k' m; exact absurd rfl (h k n)
  · simp only [isNilS, if_true, optI, optK]
    cases tiOf P t <;> rfl
theorem ar_add (k : IntKind) (x y : Int) : arithA .add k x y = some (.int k (k.wrap (x + y))) := rfl
theorem ar_sub (k : IntKind) (x y : Int) : arithA .sub k x y = some (.int k (k.wrap (x - y))) := rfl
theorem ar_mul (k : IntKind) (x y : Int) : arithA .mul k x y = some (.int k (k.wrap (x * y))) := rfl
theorem ar_and (k : IntKind) (x y : Int) : arithA .and k x y = some (.int k (bitsA .and k x y)) := rfl
theorem ar_or (k : IntKind) (x y : Int) : arithA .or k x y = some (.int k (bitsA .or k x y)) := rfl
theorem ar_xor (k : IntKind) (x y : Int) : arithA .xor k x y = some (.int k (bitsA .xor k x y)) := rfl
theorem ar_shl (k : IntKind) (x : Int) {y : Int} (h : 0 ≤ y) : arithA .shl k x y = some (.int k (k.wrap (x * 2 ^ (min y.toNat k.bits)))) := if_neg (by omega)
theorem ar_shr (k : IntKind) (x : Int) {y : Int} (h : 0 ≤ y) : arithA .shr k x y = some (.int k (x.fdiv (2 ^ (min y.toNat k.bits)))) := if_neg (by omega)
theorem binI_shr (P : Program) (t : TypeId) (x y : Operand) (n m : Int) (h : 0 ≤ m) (K : AV → Prop) : @binI P .shr t x y (.l (.int .i64 n)) (.l (.int .u64 m)) ⟨K⟩ = K (.l (.int .i64 (n.fdiv (2 ^ (min m.toNat 64))))) := by
  have e : shiftA .shr .i64 n m = some (.int .i64 (n.fdiv (2 ^ (min m.toNat 64)))) := if_neg (by omega)
  simp [binI, binK, e, optK]
theorem binI_shl (P : Program) (t : TypeId) (x y : Operand) (n m : Int) (h : 0 ≤ m) (K : AV → Prop) : @binI P .shl t x y (.l (.int .i64 n)) (.l (.int .u64 m)) ⟨K⟩ = K (.l (.int .i64 (IntKind.i64.wrap (n * 2 ^ (min m.toNat 64))))) := by
  have e : shiftA .shl .i64 n m = some (.int .i64 (IntKind.i64.wrap (n * 2 ^ (min m.toNat 64)))) := if_neg (by omega)
  simp [binI, binK, e, optK]
theorem ar_eql (k : IntKind) (x y : Int) : arithA .eql k x y = some (.bool (decide (x = y))) := rfl
theorem ar_neq (k : IntKind) (x y : Int) : arithA .neq k x y = some (.bool (decide (x ≠ y))) := rfl
theorem ar_lss (k : IntKind) (x y : Int) : arithA .lss k x y = some (.bool (decide (x < y))) := rfl
theorem ar_leq (k : IntKind) (x y : Int) : arithA .leq k x y = some (.bool (decide (x ≤ y))) := rfl
theorem ar_gtr (k : IntKind) (x y : Int) : arithA .gtr k x y = some (.bool (decide (x > y))) := rfl
theorem ar_geq (k : IntKind) (x y : Int) : arithA .geq k x y = some (.bool (decide (x ≥ y))) := rfl

theorem wrap_in {n : Int} (h : -9223372036854775808 ≤ n) (h' : n ≤ 9223372036854775807) : IntKind.i64.wrap n = n := by rw [IntKind.wrap_i64]; omega

theorem bk_len (P : Program) (t : TypeId) (x : AV) (M : Mem) (K : AV → Mem → Prop) : @builtI P .len [t] [x] M ⟨K⟩ = @optI _ (lenA P M t x) ⟨fun v => K v M⟩ := rfl
theorem bk_append (P : Program) (t tx : TypeId) (s x : AV) (M : Mem) (K : AV → Mem → Prop) : @builtI P .append [t, tx] [s, x] M ⟨K⟩ = @appI P M t tx s x ⟨K⟩ := rfl
theorem bk_clear (P : Program) (t : TypeId) (x : AV) (M : Mem) (K : AV → Mem → Prop) : @builtI P .clear [t] [x] M ⟨K⟩ = @optI _ (clearA P M t x) ⟨fun M' => K .any M'⟩ := rfl
theorem bk_delete (P : Program) (t : TypeId) (ts : List TypeId) (m k : AV) (M : Mem) (K : AV → Mem → Prop) : @builtI P .delete (t :: ts) [m, k] M ⟨K⟩ = @optI _ (mapDelA P M t m k) ⟨fun M' => K .any M'⟩ := rfl
theorem bk_cap (P : Program) (t : TypeId) (M : Mem) (K : AV → Mem → Prop) : @builtI P .cap [t] [.l .nils] M ⟨K⟩ = @optI _ (tiOf P t) ⟨fun i => match i.d with | .slice _ => K (.l (.int .i64 0)) M | _ => False⟩ := by simp only [builtI, builtK, builtG, optI, optK]; cases tiOf P t <;> rfl
theorem bk_min (P : Program) (t t' : TypeId) (k : IntKind) (x y : Int) (M : Mem) (K : AV → Mem → Prop) : @builtI P .min [t, t'] [.l (.int k x), .l (.int k y)] M ⟨K⟩ = K (.l (.int k (if y < x then y else x))) M := rfl
theorem bk_max (P : Program) (t t' : TypeId) (k : IntKind) (x y : Int) (M : Mem) (K : AV → Mem → Prop) : @builtI P .max [t, t'] [.l (.int k x), .l (.int k y)] M ⟨K⟩ = K (.l (.int k (if y > x then y else x))) M := rfl

/-- append to a slice of a live block. -/
theorem app_ms (P : Program) (M : Mem) (t tx e : TypeId) (ti te : TI) (hti : tiOf P t = some ti) (hd : ti.d = .slice e) (hte : tiOf P e = some te) (hz : zeroFits P e = true) (hpos : 0 < te.size) (id len : Nat) (x : AV) {rows : List (List Lf)} {keep : Nat} (src : List (List Lf))
    (hM : M id = some (.cells e rows keep)) (hsrc : srcRows P M t tx e te x = some src) (hl : len ≤ rows.length) (hk : keep ≤ len) (hb : (len + src.length) * te.bytes ≤ 140737488355328) (hb' : len + src.length ≤ 140737488355328) {K : AV → Mem → Prop}
    (h : ∀ id', (∀ j, id' ≤ j → M j = none) → K (.l (.ms id' 0 (len + src.length))) ((M.del id).set id' (.cells e (rows.take len ++ src) keep))) : @appI P M t tx (.l (.ms id 0 len)) x ⟨K⟩ := by
  show appendA (newK M) P M t tx (.l (.ms id 0 len)) x K
  rw [appendA_ms]
  unfold appendG
  simp only [hti, hd, hte, hsrc, optK, hM]
  exact ⟨hz, hpos, trivial, hl, hk, hb, hb', h⟩
/-- append to a slice that is nil, or has no room. -/
theorem app_nils (P : Program) (M : Mem) (t tx e : TypeId) (ti te : TI) (hti : tiOf P t = some ti) (hd : ti.d = .slice e) (hte : tiOf P e = some te) (hz : zeroFits P e = true) (hpos : 0 < te.size) (x : AV) (src : List (List Lf))
    (hsrc : srcRows P M t tx e te x = some src) (hb : src.length * te.bytes ≤ 140737488355328) (hb' : src.length ≤ 140737488355328) {K : AV → Mem → Prop}
    (h0 : src = [] → K (.l .nils) M) (h : src ≠ [] → ∀ id', (∀ j, id' ≤ j → M j = none) → K (.l (.ms id' 0 src.length)) (M.set id' (.cells e src 0))) : @appI P M t tx (.l .nils) x ⟨K⟩ := by
  show appendA (newK M) P M t tx (.l .nils) x K
  have e : appendA (newK M) P M t tx (.l .nils) x K = appendG (newK M) P M t tx (.l .nils) x K := by
    unfold appendA
    split
    · exfalso
      unfold srcRows at hsrc
      split at hsrc
      · cases hsrc
      · split at hsrc
        · rename_i h; cases h
        · cases hsrc
    · rfl
  rw [e]
  unfold appendG
  simp only [hti, hd, hte, hsrc, optK]
  exact ⟨hz, hpos, h0, fun hne => ⟨hb, hb', h hne⟩⟩

theorem Mem.set_eq (M : Mem) (id : Nat) (b : Blk) : (M.set id b) id = some b := by simp [Mem.set]
theorem Mem.set_ne (M : Mem) (id i : Nat) (b : Blk) (h : id ≠ i) : (M.set id b) i = M i := by simp [Mem.set, h]
theorem Mem.del_eq (M : Mem) (id : Nat) : (M.del id) id = none := by simp [Mem.del]
theorem Mem.del_ne (M : Mem) (id i : Nat) (h : id ≠ i) : (M.del id) i = M i := by simp [Mem.del, h]
theorem Mem.set_set (M : Mem) (id : Nat) (b b' : Blk) : (M.set id b).set id b' = M.set id b' := by funext i; simp only [Mem.set]; split <;> rfl
theorem lt_of_bnd {M : Mem} {i id : Nat} {b : Blk} (h : ∀ j, id ≤ j → M j = none) (hi : M i = some b) : i < id := by
  rcases Nat.lt_or_ge i id with h' | h'
  · exact h'
  · rw [h i h'] at hi; cases hi
end Go.X
set_option linter.unusedVariables false
set_option linter.unusedSimpArgs false
set_option linter.unusedSectionVars false
set_option maxRecDepth 100000
namespace Go.X
open Go.RowKit

/-! ### which operation stands before which -/
def bpreds (o : Oper) : List Nat := (o.after.toList.filter fun e => Region.binds .any e).map (·.on)
def ancStep (acc : List Nat) (o : Oper) : Nat := (bpreds o).foldl (fun m e => m ||| (1 <<< e) ||| acc.getD e 0) 0
def ancGo : List Oper → List Nat → List Nat
  | [], acc => acc
  | o :: r, acc => ancGo r (acc ++ [ancStep acc o])
def ancM (ops : List Oper) : List Nat := ancGo ops []
def anc (ops : List Oper) (i j : Nat) : Bool := ((ancM ops).getD i 0).testBit j

def Closed (ops : List Oper) (L : Nat → Bool) : Prop := ∀ i o, ops[i]? = some o → L i = true → ∀ e ∈ bpreds o, L e = true

theorem ancFold {acc : List Nat} {j : Nat} (l : List Nat) : ∀ m : Nat, (l.foldl (fun m e => m ||| (1 <<< e) ||| acc.getD e 0) m).testBit j = true → m.testBit j = true ∨ ∃ e ∈ l, j = e ∨ (acc.getD e 0).testBit j = true := by
  induction l with
  | nil => intro m h; exact .inl h
  | cons e l ih =>
    intro m h
    rcases ih _ h with h | ⟨e', he', h⟩
    · rw [Nat.testBit_or, Nat.testBit_or, Bool.or_eq_true, Bool.or_eq_true] at h
      rcases h with (h | h) | h
      · exact .inl h
      · refine .inr ⟨e, by simp, .inl ?_⟩
        rw [Nat.one_shiftLeft, Nat.testBit_two_pow] at h
        exact (of_decide_eq_true h).symm
      · exact .inr ⟨e, by simp, .inr h⟩
    · exact .inr ⟨e', by simp [he'], h⟩

theorem ancGo_sound {ops : List Oper} {L : Nat → Bool} (hc : Closed ops L) : ∀ (r : List Oper) (acc : List Nat) (k : Nat), acc.length = k → ops.drop k = r →
    (∀ (i : Nat) (o : Oper), i < k → ops[i]? = some o → (∀ e ∈ bpreds o, L e = true) → ∀ j, (acc.getD i 0).testBit j = true → L j = true) →
    ∀ (i : Nat) (o : Oper), ops[i]? = some o → (∀ e ∈ bpreds o, L e = true) → ∀ j, ((ancGo r acc).getD i 0).testBit j = true → L j = true := by
  intro r
  induction r with
  | nil =>
    intro acc k hk hd hacc i o ho hp j hj
    have hi : i < k := by
      have h1 := (List.getElem?_eq_some_iff.1 ho).1
      have h2 : ops.length ≤ k := by
        have := congrArg List.length hd
        simp at this
        omega
      omega
    exact hacc i o hi ho hp j hj
  | cons o' r ih =>
    intro acc k hk hd hacc
    have hok : ops[k]? = some o' := by
      have := congrArg List.head? hd
      rw [List.head?_drop] at this
      simpa using this
    refine ih (acc ++ [ancStep acc o']) (k + 1) (by simp [hk]) (by rw [← List.drop_drop, hd]; rfl) fun i o hi ho hp j hj => ?_
    by_cases hik : i < k
    · rw [List.getD_eq_getElem?_getD, List.getElem?_append_left (by omega), ← List.getD_eq_getElem?_getD] at hj
      exact hacc i o hik ho hp j hj
    · have hik : i = k := by omega
      subst hik
      rw [hok, Option.some.injEq] at ho
      subst ho
      rw [List.getD_eq_getElem?_getD, List.getElem?_append_right (by omega), hk, Nat.sub_self] at hj
      simp only [List.getElem?_cons_zero, Option.getD_some] at hj
      rcases ancFold _ _ hj with h | ⟨e, he, h | h⟩
      · simp at h
      · rw [h]; exact hp e he
      · by_cases hek : e < i
        · obtain ⟨o2, ho2⟩ : ∃ o2, ops[e]? = some o2 := ⟨ops[e]'(by have := (List.getElem?_eq_some_iff.1 hok).1; omega), List.getElem?_eq_getElem _⟩
          exact hacc e o2 hek ho2 (hc e o2 ho2 (hp e he)) j h
        · rw [List.getD_eq_getElem?_getD, List.getElem?_eq_none (by omega)] at h
          simp at h

theorem anc_sound {ops : List Oper} {L : Nat → Bool} (hc : Closed ops L) {i : Nat} {o : Oper} (ho : ops[i]? = some o) (hp : ∀ e ∈ bpreds o, L e = true) {j : Nat} (hj : anc ops i j = true) : L j = true :=
  ancGo_sound hc ops [] 0 rfl rfl (fun i o hi => by omega) i o ho hp j hj

/-! ### frames -/
def dstOf (ops : List Oper) (i : Nat) : Option Nat := (ops[i]?).bind (·.dst)
/-- The frame, when the operations of L are done. -/
def frS (ops : List Oper) (v : Nat → AV) (fr : Fr) (L : Nat → Bool) : Nat → Fr
  | 0 => fr
  | n + 1 => if L n then updO (frS ops v fr L n) (dstOf ops n) (v n) else frS ops v fr L n
/-- The frame, when the first ones are done. -/
def frT (ops : List Oper) (v : Nat → AV) (fr : Fr) : Nat → Fr
  | 0 => fr
  | n + 1 => updO (frT ops v fr n) (dstOf ops n) (v n)

theorem updO_ne {fr : Fr} {x : Option Nat} {v : AV} {d : Nat} (h : x ≠ some d) : updO fr x v d = fr d := by
  cases x with
  | none => rfl
  | some e =>
    have : e ≠ d := fun he => h (by rw [he])
    simp [updO, upd, this]
theorem updO_eq {fr : Fr} {x : Option Nat} {v : AV} {d : Nat} (h : x = some d) : updO fr x v d = v := by subst h; simp [updO, upd]

theorem frS_T {ops : List Oper} {v : Nat → AV} {fr : Fr} {L : Nat → Bool} {i d : Nat} : ∀ n, (∀ j, j < n → dstOf ops j = some d → L j = decide (j < i)) → frS ops v fr L n d = frT ops v fr (min n i) d := by
  intro n
  induction n with
  | zero => intro h; simp [frS, frT]
  | succ n ih =>
    intro h
    have ih := ih fun j hj => h j (by omega)
    unfold frS
    by_cases hni : n < i
    · rw [show min (n + 1) i = min n i + 1 by omega, show min n i = n by omega]
      rw [show min n i = n by omega] at ih
      by_cases hd : dstOf ops n = some d
      · rw [h n (by omega) hd, if_pos (by simp [hni]), frT, updO_eq hd, updO_eq hd]
      · rw [frT, updO_ne hd]
        split
        · rw [updO_ne hd, ih]
        · exact ih
    · rw [show min (n + 1) i = min n i by omega]
      by_cases hd : dstOf ops n = some d
      · rw [h n (by omega) hd, if_neg (by simp [hni]), ih]
      · split
        · rw [updO_ne hd, ih]
        · exact ih

theorem frS_val {ops : List Oper} {v : Nat → AV} {fr : Fr} {L : Nat → Bool} {i d : Nat} (hL : L i = true) (hd : dstOf ops i = some d) : ∀ n, i < n → (∀ j, i < j → j < n → dstOf ops j = some d → L j = false) → frS ops v fr L n d = v i := by
  intro n
  induction n with
  | zero => intro h; omega
  | succ n ih =>
    intro hi hj
    unfold frS
    by_cases hin : i = n
    · subst hin
      rw [if_pos hL, updO_eq hd]
    · have ih := ih (by omega) fun j h1 h2 => hj j h1 (by omega)
      by_cases hdn : dstOf ops n = some d
      · rw [if_neg (by rw [hj n (by omega) (by omega) hdn]; simp), ih]
      · split
        · rw [updO_ne hdn, ih]
        · exact ih

theorem frS_agree {ops : List Oper} {v : Nat → AV} {fr : Fr} {L L' : Nat → Bool} {d : Nat} : ∀ n, (∀ j, j < n → dstOf ops j = some d → L j = L' j) → frS ops v fr L n d = frS ops v fr L' n d := by
  intro n
  induction n with
  | zero => intro h; rfl
  | succ n ih =>
    intro h
    have ih := ih fun j hj => h j (by omega)
    unfold frS
    by_cases hd : dstOf ops n = some d
    · rw [h n (by omega) hd]
      split
      · rw [updO_eq hd, updO_eq hd]
      · exact ih
    · split <;> split
      · rw [updO_ne hd, updO_ne hd, ih]
      · rw [updO_ne hd, ih]
      · rw [updO_ne hd, ih]
      · exact ih

/-- One more is done. -/
def ins (L : Nat → Bool) (i : Nat) : Nat → Bool := fun j => decide (j = i) || L j

theorem frS_ins {ops : List Oper} {v : Nat → AV} {fr : Fr} {L : Nat → Bool} {i n : Nat} (hi : i < n) (hL : L i = false) (hj : ∀ j d, i < j → dstOf ops i = some d → dstOf ops j = some d → L j = false) :
    frS ops v fr (ins L i) n = updO (frS ops v fr L n) (dstOf ops i) (v i) := by
  funext d
  by_cases hd : dstOf ops i = some d
  · rw [updO_eq hd]
    refine frS_val (by simp [ins]) hd n hi fun j h1 h2 h3 => ?_
    simp only [ins, Bool.or_eq_false_iff, decide_eq_false_iff_not]
    exact ⟨by omega, hj j d h1 hd h3⟩
  · rw [updO_ne hd]
    refine frS_agree n fun j h1 h2 => ?_
    have : j ≠ i := fun e => hd (e ▸ h2)
    simp [ins, this]

theorem frS_all {ops : List Oper} {v : Nat → AV} {fr : Fr} {L : Nat → Bool} : ∀ n, (∀ j, j < n → L j = true) → frS ops v fr L n = frT ops v fr n := by
  intro n
  induction n with
  | zero => intro h; rfl
  | succ n ih =>
    intro h
    unfold frS frT
    rw [if_pos (h n (by omega)), ih fun j hj => h j (by omega)]
theorem frS_none {ops : List Oper} {v : Nat → AV} {fr : Fr} {L : Nat → Bool} : ∀ n, (∀ j, j < n → L j = false) → frS ops v fr L n = fr := by
  intro n
  induction n with
  | zero => intro h; rfl
  | succ n ih =>
    intro h
    unfold frS
    rw [if_neg (by rw [h n (by omega)]; simp), ih fun j hj => h j (by omega)]
theorem frT_congr {ops : List Oper} {v v' : Nat → AV} {fr : Fr} : ∀ n, (∀ j, j < n → v j = v' j) → frT ops v fr n = frT ops v' fr n := by
  intro n
  induction n with
  | zero => intro h; rfl
  | succ n ih =>
    intro h
    unfold frT
    rw [h n (by omega), ih fun j hj => h j (by omega)]

/-! ### what the kernel looks at -/
/-- The slots that an operation looks at. -/
def readsOf (ops : List Oper) (o : Oper) : List Nat :=
  (o.op.operands.toList.filterMap fun | .tmp t => some t | _ => none) ++ (match o.guard with | some (j, _) => (gslot ops j).toList | none => [])
def idxOk (A : List Nat) (ops : List Oper) (i : Nat) (o : Oper) : Bool :=
  (bpreds o).all (fun e => decide (e < i)) &&
  (readsOf ops o).all (fun d => (List.range ops.length).all fun j => dstOf ops j != some d || j == i || (if j < i then (A.getD i 0).testBit j else (A.getD j 0).testBit i)) &&
  (match o.dst with | none => true | some d => (List.range ops.length).all fun j => dstOf ops j != some d || decide (j ≤ i) || (A.getD j 0).testBit i)
def idxAll (A : List Nat) (ops : List Oper) : List Oper → Nat → Bool
  | [], _ => true
  | o :: r, i => idxOk A ops i o && idxAll A ops r (i + 1)
def drawOk (ops : List Oper) : Bool := idxAll (ancM ops) ops ops 0

theorem idxAll_get {A : List Nat} {ops : List Oper} : ∀ (r : List Oper) (k : Nat), idxAll A ops r k = true → ∀ (i : Nat) (o : Oper), r[i]? = some o → idxOk A ops (k + i) o = true := by
  intro r
  induction r with
  | nil => intro k _ i o h; simp at h
  | cons x r ih =>
    intro k h i o ho
    simp only [idxAll, Bool.and_eq_true] at h
    cases i with
    | zero => simp only [List.getElem?_cons_zero, Option.some.injEq] at ho; subst ho; exact h.1
    | succ i => rw [show k + (i + 1) = (k + 1) + i by omega]; exact ih (k + 1) h.2 i o (by simpa using ho)

structure IdxSpec (ops : List Oper) (i : Nat) (o : Oper) : Prop where
  lt : ∀ e ∈ bpreds o, e < i
  rd : ∀ d ∈ readsOf ops o, ∀ j, j < ops.length → dstOf ops j = some d → j = i ∨ (j < i ∧ anc ops i j = true) ∨ (i < j ∧ anc ops j i = true)
  wr : ∀ d, o.dst = some d → ∀ j, j < ops.length → i < j → dstOf ops j = some d → anc ops j i = true

theorem drawOk_get {ops : List Oper} (h : drawOk ops = true) {i : Nat} {o : Oper} (ho : ops[i]? = some o) : IdxSpec ops i o := by
  have h := idxAll_get ops 0 h i o ho
  rw [Nat.zero_add] at h
  simp only [idxOk, Bool.and_eq_true] at h
  obtain ⟨⟨h1, h2⟩, h3⟩ := h
  refine ⟨fun e he => of_decide_eq_true (List.all_eq_true.1 h1 e he), fun d hd j hj hdj => ?_, fun d hd j hj hij hdj => ?_⟩
  · have := List.all_eq_true.1 (List.all_eq_true.1 h2 d hd) j (by simpa using hj)
    simp only [Bool.or_eq_true, bne_iff_ne, ne_eq, hdj, not_true_eq_false, false_or, beq_iff_eq] at this
    rcases this with this | this
    · exact .inl this
    · by_cases hji : j < i
      · rw [if_pos hji] at this; exact .inr (.inl ⟨hji, this⟩)
      · rw [if_neg hji] at this
        by_cases hje : j = i
        · exact .inl hje
        · exact .inr (.inr ⟨by omega, this⟩)
  · rw [hd] at h3
    have := List.all_eq_true.1 h3 j (by simpa using hj)
    simp only [Bool.or_eq_true, bne_iff_ne, ne_eq, hdj, not_true_eq_false, false_or, decide_eq_true_eq] at this
    rcases this with this | this
    · omega
    · exact this

end Go.X
set_option linter.unusedVariables false
set_option linter.unusedSimpArgs false
set_option linter.unusedSectionVars false
set_option maxRecDepth 100000
namespace Go.X
open Go.RowKit

/-! ### other ids are kept free -/
def Gh.rsd (g : Gh) (r : Nat → Prop) : Gh := { g with res := r }
theorem Conc.rsd {g : Gh} {w : World} (r : Nat → Prop) {x : Lf} {v : Value} (h : Conc g w x v) : Conc (g.rsd r) w x v := by
  induction h with
  | int k n => exact .int k n
  | bool b => exact .bool b
  | str s => exact .str s
  | nilp => exact .nilp
  | ptr h => exact .ptr h
  | rp cs h _ ih => exact .rp cs h ih
  | nils => exact .nils
  | sl0 => exact .sl0
  | sl cs hsz hcap h _ ih => exact .sl cs hsz hcap h ih
  | ms h h1 h2 => exact .ms h h1 h2
  | nilm => exact .nilm
  | mp h => exact .mp h
  | nilf => exact .nilf
  | clo cs hl _ ih => exact .clo cs hl ih
  | nili => exact .nili
  | tok v h => exact .tok v h
theorem ConcL.rsd {g : Gh} {w : World} (r : Nat → Prop) {xs : List Lf} {vs : List Value} (h : ConcL g w xs vs) : ConcL (g.rsd r) w xs vs := ⟨h.1, fun i x v a b => (h.2 i x v a b).rsd r⟩
theorem ConcA.rsd {g : Gh} {w : World} (r : Nat → Prop) {x : AV} {v : Value} (h : ConcA g w x v) : ConcA (g.rsd r) w x v := by
  induction h with
  | l h => exact .l (h.rsd r)
  | agg vs h => exact .agg vs (h.rsd r)
  | tup vs hl _ ih => exact .tup vs hl ih
  | any v => exact .any v
theorem BlkAt.rsd {g : Gh} {w : World} (r : Nat → Prop) {id : Nat} {b : Blk} (h : BlkAt g w id b) : BlkAt (g.rsd r) w id b := by
  cases b with
  | cells T rows keep =>
    obtain ⟨b, sz, cr, cur, h1, h2, h3, h4, h5, h6, h7, h8, h9⟩ := h
    exact ⟨b, sz, cr, cur, h1, h2, h3, h4, h5, ⟨h6.1, fun i j r' x a b => let ⟨v, p, q⟩ := h6.2 i j r' x a b; ⟨v, p, q.rsd r⟩⟩, h7, h8, h9⟩
  | map es =>
    obtain ⟨b, sz, cr, ents, clock, h1, h2, h3, h4, h5⟩ := h
    exact ⟨b, sz, cr, ents, clock, h1, h2, h3, h4, fun i p e a b => ⟨(h5 i p e a b).1.rsd r, (h5 i p e a b).2.rsd r⟩⟩
theorem Rel.rsd {g : Gh} {M : Mem} {w : World} (r : Nat → Prop) (h : Rel g M w) (hr : ∃ n, ∀ id, n ≤ id → ¬ r id) : Rel (g.rsd r) M w where
  blk id b hb := (h.blk id b hb).rsd r
  inj := h.inj
  lt := h.lt
  fz := h.fz
  fin := by
    obtain ⟨n, hn⟩ := h.fin
    obtain ⟨m, hm⟩ := hr
    exact ⟨max n m, fun id hid => ⟨(hn id (by omega)).1, (hn id (by omega)).2.1, hm id (by omega)⟩⟩
  below := h.below
  tab := h.tab
theorem FrR.rsd {g : Gh} {w : World} {n : Nat} {fr : Fr} {a : Act} (r : Nat → Prop) (h : FrR g w n fr a) : FrR (g.rsd r) w n fr a := ⟨h.defers, h.size, fun i hi => (h.get i hi).rsd r⟩

/-! ### an operation looks at its operands alone -/
theorem vopcG_fr {N : (Nat → Prop) → Prop} {P : Program} {op : Op} {fr fr' : Fr} {M : Mem} {K : AV → Mem → Prop} (h : ∀ x ∈ op.operands.toList, ev fr x = ev fr' x) (hv : vopcG N P op fr M K) : vopcG N P op fr' M K := by
  have E : ∀ x, x ∈ op.operands.toList → ev fr x = ev fr' x := h
  cases op with
  | move x => simpa only [vopcG, E x (by simp [Op.operands])] using hv
  | assign x => simpa only [vopcG, E x (by simp [Op.operands])] using hv
  | pick c x y => simpa only [vopcG, E x (by simp [Op.operands]), E y (by simp [Op.operands]), E c (by simp [Op.operands])] using hv
  | alloc T => exact hv
  | box T x => simpa only [vopcG, E x (by simp [Op.operands])] using hv
  | build t parts =>
    have : (parts.toList.map fun p => (p.1, ev fr p.2)) = (parts.toList.map fun p => (p.1, ev fr' p.2)) := List.map_congr_left fun p hp => by rw [E p.2 (by simp only [Op.operands, Array.toList_map]; exact List.mem_map.2 ⟨p, hp, rfl⟩)]
    simpa only [vopcG, this] using hv
  | buildSlice t len parts =>
    have : (parts.toList.map fun p => (p.1, ev fr p.2)) = (parts.toList.map fun p => (p.1, ev fr' p.2)) := List.map_congr_left fun p hp => by rw [E p.2 (by simp only [Op.operands, Array.toList_map]; exact List.mem_map.2 ⟨p, hp, rfl⟩)]
    simpa only [vopcG, this] using hv
  | load t x => simpa only [vopcG, E x (by simp [Op.operands])] using hv
  | store t x y => simpa only [vopcG, E x (by simp [Op.operands]), E y (by simp [Op.operands])] using hv
  | nilCheck x => simpa only [vopcG, E x (by simp [Op.operands])] using hv
  | binOp op t x y u => simpa only [vopcG, E x (by simp [Op.operands]), E y (by simp [Op.operands])] using hv
  | unOp op t x => simpa only [vopcG, E x (by simp [Op.operands])] using hv
  | convert s d x => simpa only [vopcG, E x (by simp [Op.operands])] using hv
  | makeFunc fn first caps =>
    have : (caps.toList.map (ev fr)) = (caps.toList.map (ev fr')) := List.map_congr_left fun p hp => E p (by simp [Op.operands] at *; simp [hp])
    simpa only [vopcG, this] using hv
  | makeSlice t l c => simpa only [vopcG, E l (by simp [Op.operands]), E c (by simp [Op.operands])] using hv
  | makeMap t r => exact hv
  | slice t x lo hi mx =>
    have hl : ∀ z : Option Operand, (∀ y, z = some y → y ∈ (Op.slice t x lo hi mx).operands.toList) → z.map (ev fr) = z.map (ev fr') := fun z hz => by
      cases z with
      | none => rfl
      | some y => simp only [Option.map_some, E y (hz y rfl)]
    have h1 := hl lo (fun y hy => by subst hy; simp [Op.operands])
    have h2 := hl hi (fun y hy => by subst hy; simp [Op.operands])
    have h3 := hl mx (fun y hy => by subst hy; simp [Op.operands])
    simpa only [vopcG, E x (by simp [Op.operands]), h1, h2, h3] using hv
  | fieldAddr s x f => simpa only [vopcG, E x (by simp [Op.operands])] using hv
  | field t x f => simpa only [vopcG, E x (by simp [Op.operands])] using hv
  | indexAddr t x i => simpa only [vopcG, E x (by simp [Op.operands]), E i (by simp [Op.operands])] using hv
  | index t x i => simpa only [vopcG, E x (by simp [Op.operands]), E i (by simp [Op.operands])] using hv
  | lookup t m k ok => simpa only [vopcG, E m (by simp [Op.operands]), E k (by simp [Op.operands])] using hv
  | mapUpdate t m k v => simpa only [vopcG, E m (by simp [Op.operands]), E k (by simp [Op.operands]), E v (by simp [Op.operands])] using hv
  | extract x i => simpa only [vopcG, E x (by simp [Op.operands])] using hv
  | call c =>
    have ha : (c.args.toList.map (ev fr)) = (c.args.toList.map (ev fr')) := List.map_congr_left fun p hp => E p (by simp [Op.operands, Call.operands] at *; simp [hp])
    simp only [vopcG] at hv ⊢
    unfold callG at hv ⊢
    rw [ha] at hv
    split at hv
    · exact hv
    · rename_i t hc
      have := E (.tmp t) (by simp [Op.operands, Call.operands, hc])
      simp only [ev] at this
      rw [← this]
      exact hv
    · exact hv
    · exact hv.elim
  | _ => exact hv

end Go.X
set_option linter.unusedVariables false
set_option linter.unusedSimpArgs false
set_option linter.unusedSectionVars false
set_option maxRecDepth 100000
namespace Go.X
open Go.RowKit

/-- Is the operation carried out, in this frame? -/
def Runs (ops : List Oper) (o : Oper) (fr : Fr) (b : Bool) : Prop :=
  match o.guard with
  | none => b = true
  | some (j, u) => ∃ d, gslot ops j = some d ∧ ((∃ c, fr d = .l (.bool c) ∧ b = decide (c = u)) ∨ (fr d = .tup [] ∧ b = false))

structure Plan (P : Program) (ops : List Oper) (fr : Fr) (n0 : Nat) (v : Nat → AV) (mem : (Nat → Bool) → Mem) : Prop where
  op : ∀ i o, ops[i]? = some o → ∃ b, Runs ops o (frT ops v fr i) b ∧ (b = false → v i = .tup []) ∧
    ∀ L, Closed ops L → L i = false → (∀ e ∈ bpreds o, L e = true) →
      (b = true → (mem L) (n0 + i) = none ∧ vopcG (fun F => F (n0 + i)) P o.op (frT ops v fr i) (mem L) fun x M' => x = v i ∧ (mem (ins L i)).le M') ∧ (b = false → (mem (ins L i)).le (mem L))

/-- The ids that are kept for the operations that are not yet done. -/
def resS (g : Gh) (n0 n : Nat) (L : Nat → Bool) (id : Nat) : Prop := g.res id ∨ ∃ j, j < n ∧ L j = false ∧ id = n0 + j

def DInv (g0 : Gh) (w0 : World) (n : Nat) (ops : List Oper) (v : Nat → AV) (fr : Fr) (n0 : Nat) (mem : (Nat → Bool) → Mem) (L : Nat → Bool) (a : Act) (w : World) : Prop :=
  ∃ g, Ev (g0.rsd (resS g0 n0 ops.length L)) w0 g w ∧ FrR g w n (frS ops v fr L ops.length) a ∧ Rel g (mem L) w

def listedF (l : Array Bool) : Nat → Bool := fun i => l.getD i false

theorem listedF_set {l : Array Bool} {i : Nat} (h : i < l.size) : listedF (l.setIfInBounds i true) = ins (listedF l) i := by
  funext j
  simp only [listedF, ins]
  by_cases hj : j = i
  · subst hj
    simp [h]
  · simp [Array.getElem?_setIfInBounds, Ne.symm hj, hj]

theorem readsOf_op {ops : List Oper} {o : Oper} {t : Nat} (h : Operand.tmp t ∈ o.op.operands.toList) : t ∈ readsOf ops o := by
  simp only [readsOf, List.mem_append, List.mem_filterMap]
  exact .inl ⟨_, h, rfl⟩
theorem readsOf_guard {ops : List Oper} {o : Oper} {j d : Nat} {u : Bool} (h : o.guard = some (j, u)) (hd : gslot ops j = some d) : d ∈ readsOf ops o := by
  simp [readsOf, h, hd]

section
variable {P : Program} {n : Nat} {ops : List Oper} {fr : Fr} {n0 : Nat} {v : Nat → AV} {mem : (Nat → Bool) → Mem} {g0 : Gh} {w0 : World}

theorem read_at (hd : drawOk ops = true) {L : Nat → Bool} (hc : Closed ops L) {i : Nat} {o : Oper} (ho : ops[i]? = some o) (hL : L i = false) (hp : ∀ e ∈ bpreds o, L e = true) {d : Nat} (hr : d ∈ readsOf ops o) :
    frS ops v fr L ops.length d = frT ops v fr i d := by
  have hi := (List.getElem?_eq_some_iff.1 ho).1
  have := frS_T (ops := ops) (v := v) (fr := fr) (L := L) (i := i) (d := d) ops.length fun j hj hdj => by
    rcases (drawOk_get hd ho).rd d hr j hj hdj with rfl | ⟨h1, h2⟩ | ⟨h1, h2⟩
    · simp [hL]
    · rw [anc_sound hc ho hp h2]; simp [h1]
    · have : ¬ L j = true := fun hLj => by
        have hjo : ops[j]? = some ops[j] := List.getElem?_eq_getElem hj
        have := anc_sound hc hjo (hc j _ hjo hLj) h2
        rw [hL] at this; cases this
      rw [Bool.eq_false_iff.2 this]
      have : ¬ j < i := by omega
      simp [this]
  rw [this, Nat.min_eq_right (by omega)]

theorem fr_ins (hd : drawOk ops = true) {L : Nat → Bool} (hc : Closed ops L) {i : Nat} {o : Oper} (ho : ops[i]? = some o) (hL : L i = false) :
    frS ops v fr (ins L i) ops.length = updO (frS ops v fr L ops.length) o.dst (v i) := by
  have hi := (List.getElem?_eq_some_iff.1 ho).1
  have hdo : dstOf ops i = o.dst := by simp [dstOf, ho]
  rw [frS_ins hi hL, hdo]
  intro j d hij h1 h2
  rw [hdo] at h1
  by_cases hj : j < ops.length
  · have hh := (drawOk_get hd ho).wr d h1 j hj hij h2
    refine Bool.eq_false_iff.2 fun hLj => ?_
    have hjo : ops[j]? = some ops[j] := List.getElem?_eq_getElem hj
    have := anc_sound hc hjo (hc j _ hjo hLj) hh
    rw [hL] at this; cases this
  · simp [dstOf, List.getElem?_eq_none (Nat.not_lt.1 hj)] at h2

theorem closed_ins {L : Nat → Bool} (hc : Closed ops L) {i : Nat} {o : Oper} (ho : ops[i]? = some o) (hp : ∀ e ∈ bpreds o, L e = true) : Closed ops (ins L i) := by
  intro j o' ho' hL e he
  simp only [ins, Bool.or_eq_true, decide_eq_true_eq] at hL ⊢
  rcases hL with rfl | hL
  · rw [ho, Option.some.injEq] at ho'
    subst ho'
    exact .inr (hp e he)
  · exact .inr (hc j o' ho' hL e he)

/-- One operation more. -/
theorem draw_step (hP : g0.P = P) (hok : opsOk n ops = true) (hd : drawOk ops = true) (pl : Plan P ops fr n0 v mem) (hn0 : ∀ id, n0 ≤ id → g0.blk id = none ∧ ¬ g0.res id)
    {Q : Exit → Act → World → Prop} {K : Act → World → Prop} {L : Nat → Bool} (hc : Closed ops L) {i : Nat} {o : Oper} (ho : ops[i]? = some o) (hL : L i = false) (hp : ∀ e ∈ bpreds o, L e = true) {a : Act} {w : World}
    (hI : DInv g0 w0 n ops v fr n0 mem L a w) (hk : ∀ a' w', DInv g0 w0 n ops v fr n0 mem (ins L i) a' w' → K a' w') : wpOp P ops.toArray Q i K a w := by
  obtain ⟨g, e, hF, hR⟩ := hI
  have hi := (List.getElem?_eq_some_iff.1 ho).1
  obtain ⟨b, hrun, hany, hop⟩ := pl.op i o ho
  obtain ⟨hT, hFf⟩ := hop L hc hL hp
  have hopok : operOk n o = true := List.all_eq_true.1 hok o (List.mem_of_getElem? ho)
  have hopnd : o.op.operands.toList.all (opndOk n) = true := by
    unfold operOk at hopok
    exact (Bool.and_eq_true _ _ ▸ hopok).1
  -- fewer ids are kept
  have hsub : ∀ id, resS g0 n0 ops.length (ins L i) id → resS g0 n0 ops.length L id ∧ id ≠ n0 + i := by
    rintro id (h | ⟨j, hj, hLj, rfl⟩)
    · exact ⟨.inl h, fun he => (hn0 id (by omega)).2 h⟩
    · simp only [ins, Bool.or_eq_false_iff, decide_eq_false_iff_not] at hLj
      exact ⟨.inr ⟨j, hj, hLj.2, rfl⟩, by omega⟩
  have hres : ∃ m, ∀ id, m ≤ id → ¬ resS g0 n0 ops.length (ins L i) id := by
    refine ⟨n0 + ops.length, fun id hid => ?_⟩
    rintro (h | ⟨j, hj, hLj, rfl⟩)
    · exact (hn0 id (by omega)).2 h
    · omega
  have e1 : Ev (g0.rsd (resS g0 n0 ops.length (ins L i))) w0 (g.rsd (resS g0 n0 ops.length (ins L i))) w :=
    ⟨e.w0, e.P, e.blk, e.fz, e.cell, rfl, fun id hr hb => e.rsv id (hsub id hr).1 hb⟩
  have hF1 : FrR (g.rsd (resS g0 n0 ops.length (ins L i))) w n _ a := hF.rsd _
  have hR1 := hR.rsd (resS g0 n0 ops.length (ins L i)) hres
  have hfree : (g.rsd (resS g0 n0 ops.length (ins L i))).blk (n0 + i) = none := e.rsv (n0 + i) (.inr ⟨i, hi, hL, rfl⟩) (hn0 _ (by omega)).1
  have hnres : ¬ (g.rsd (resS g0 n0 ops.length (ins L i))).res (n0 + i) := fun h => (hsub _ h).2 rfl
  have hfi := fr_ins (v := v) (fr := fr) hd hc ho hL
  have run : b = true → o.wp P a w K Q := fun hb => by
    obtain ⟨hM, hv⟩ := hT hb
    have hv' : vopcG (fun F => F (n0 + i)) P o.op (frS ops v fr L ops.length) (mem L) fun x M' => x = v i ∧ (mem (ins L i)).le M' := by
      refine vopcG_fr (fun x hx => ?_) hv
      cases x with
      | tmp t => exact (read_at hd hc ho hL hp (readsOf_op hx)).symm
      | const _ => rfl
      | global _ => rfl
      | func _ => rfl
    refine opx_wp (vopcG_sound (g := g.rsd (resS g0 n0 ops.length (ins L i))) (e.P.trans hP) hR1 (fun F hFn => ⟨n0 + i, hfree, hM, hnres, hFn⟩) hF1 hopnd hv') fun x c g' M' w' hx e' hc' hR' => ?_
    obtain ⟨rfl, hle⟩ := hx
    exact hk _ _ ⟨g', e1.trans e', by rw [hfi]; exact (hF1.ev e').put hc', hR'.le hle⟩
  have skip : b = false → K (a.put o.dst undef) w := fun hb =>
    hk _ _ ⟨_, e1, by rw [hfi, hany hb]; exact hF1.put (skip_conc _ _), hR1.le (hFf hb)⟩
  have hoa : ops.toArray[i]? = some o := by simpa using ho
  unfold wpOp
  rw [hoa]
  simp only
  unfold Runs at hrun
  split at hrun
  · rename_i hg
    rw [if_pos (by simp [Region.wanted, hg])]
    exact .inl (run hrun)
  · rename_i j u hg
    obtain ⟨d, hgs, ⟨cc, hfd, hbb⟩ | ⟨hfd, hbb⟩⟩ := hrun
    case inr =>
      have hy := yielded_skip hF hok hgs (by rw [read_at hd hc ho hL hp (readsOf_guard hg hgs)]; exact hfd)
      have hwt : Region.wanted o (yielded ops.toArray a.tmps) = false := by simp [Region.wanted, hg, hy]
      rw [if_neg (by rw [hwt]; simp)]
      exact skip hbb
    have hy := yielded_of hF hok hgs (b := cc) (by rw [read_at hd hc ho hL hp (readsOf_guard hg hgs)]; exact hfd)
    by_cases hcu : cc = u
    · subst hcu
      rw [if_pos (by simp [Region.wanted, hg, hy])]
      exact .inl (run (by simp [hbb]))
    · have hwt : Region.wanted o (yielded ops.toArray a.tmps) = false := by
        simp only [Region.wanted, hg, hy]
        revert hcu
        cases cc <;> cases u <;> simp
      rw [if_neg (by rw [hwt]; simp)]
      exact skip (by simp [hbb, hcu])

def left (l : Array Bool) (n : Nat) : Nat := (List.range n).countP fun i => !l.getD i false

theorem left_set {l : Array Bool} {n i : Nat} (hi : i < n) (hs : i < l.size) (h : l.getD i false = false) : left (l.setIfInBounds i true) n < left l n := by
  unfold left
  induction n with
  | zero => omega
  | succ n ih =>
    rw [List.range_succ, List.countP_append, List.countP_append]
    by_cases hin : i = n
    · subst hin
      have h1 : (List.range i).countP (fun j => !(l.setIfInBounds i true).getD j false) = (List.range i).countP (fun j => !l.getD j false) := by
        apply List.countP_congr
        intro j hj
        have : i ≠ j := by have := List.mem_range.1 hj; omega
        rw [getD_set_ne false this]
      rw [h1]
      have h2 : (l.setIfInBounds i true).getD i false = true := by simp [hs]
      have e1 : List.countP (fun j => !(l.setIfInBounds i true).getD j false) [i] = 0 := by simp only [List.countP_cons, List.countP_nil, h2]; rfl
      have e2 : List.countP (fun j => !l.getD j false) [i] = 1 := by simp only [List.countP_cons, List.countP_nil, h]; rfl
      rw [e1, e2]; omega
    · have ih := ih (by omega)
      have h1 : (l.setIfInBounds i true).getD n false = l.getD n false := getD_set_ne false hin
      have h2 : List.countP (fun j => !(l.setIfInBounds i true).getD j false) [n] = List.countP (fun j => !l.getD j false) [n] := by
        simp only [List.countP_cons, List.countP_nil, h1]
      rw [h2]
      omega

theorem draw_any (hP : g0.P = P) (hok : opsOk n ops = true) (hd : drawOk ops = true) (pl : Plan P ops fr n0 v mem) (hn0 : ∀ id, n0 ≤ id → g0.blk id = none ∧ ¬ g0.res id)
    {Q : Exit → Act → World → Prop} (hq : ∀ L, (∀ i, i < ops.length → L i = true) → ∀ a w, DInv g0 w0 n ops v fr n0 mem L a w → Q .normal a w) :
    ∀ (fuel : Nat) (listed : Array Bool) (a : Act) (w : World), listed.size = ops.length → left listed ops.length ≤ fuel → Closed ops (listedF listed) → DInv g0 w0 n ops v fr n0 mem (listedF listed) a w → wpAny P .any ops.toArray Q fuel listed a w := by
  -- if none is ready, all are done
  have alldone : ∀ listed : Array Bool, listed.size = ops.length → Region.ready .any ops.toArray listed = [] → ∀ i, i < ops.length → listedF listed i = true := by
    intro listed hs hr i
    induction i using Nat.strongRecOn with
    | _ i ih =>
      intro hi
      cases hli : listedF listed i with
      | true => rfl
      | false =>
        have ho : ops[i]? = some ops[i] := List.getElem?_eq_getElem hi
        have : i ∈ Region.ready .any ops.toArray listed := by
          rw [mem_ready]
          refine ⟨?_, ops[i], by simp, fun e he hb => ?_⟩
          · have hlt : i < listed.size := by omega
            simp only [listedF] at hli
            simp [hlt] at hli ⊢
            exact hli
          · have hep : e.on ∈ bpreds ops[i] := by
              simp only [bpreds, List.mem_map, List.mem_filter]
              exact ⟨e, ⟨by simpa using he, hb⟩, rfl⟩
            have hlt := (drawOk_get hd ho).lt _ hep
            exact ih e.on hlt (by omega)
        rw [hr] at this
        cases this
  have step : ∀ (listed : Array Bool) (a : Act) (w : World), listed.size = ops.length → Closed ops (listedF listed) → DInv g0 w0 n ops v fr n0 mem (listedF listed) a w → ∀ i ∈ Region.ready .any ops.toArray listed, ∀ K : Act → World → Prop,
      (∀ a' w', Closed ops (listedF (listed.setIfInBounds i true)) → DInv g0 w0 n ops v fr n0 mem (listedF (listed.setIfInBounds i true)) a' w' → left (listed.setIfInBounds i true) ops.length < left listed ops.length → K a' w') → wpOp P ops.toArray Q i K a w := by
    intro listed a w hs hc hI i hi K hk
    rw [mem_ready] at hi
    obtain ⟨hl, o, ho, hb⟩ := hi
    have ho : ops[i]? = some o := by simpa using ho
    have hlt : i < ops.length := (List.getElem?_eq_some_iff.1 ho).1
    have hLi : listed.getD i false = false := by
      have : i < listed.size := by omega
      simp [this] at hl ⊢
      exact hl
    have hp : ∀ e ∈ bpreds o, listedF listed e = true := by
      intro e he
      simp only [bpreds, List.mem_map, List.mem_filter] at he
      obtain ⟨x, ⟨hx, hbx⟩, rfl⟩ := he
      exact hb x (by simpa using hx) hbx
    have hset := listedF_set (l := listed) (i := i) (by omega)
    refine draw_step hP hok hd pl hn0 hc ho hLi hp hI fun a' w' h => hk a' w' ?_ ?_ (left_set hlt (by omega) hLi)
    · rw [hset]; exact closed_ins hc ho hp
    · rw [hset]; exact h
  intro fuel
  induction fuel with
  | zero =>
    intro listed a w hs hf hc hI
    have hnone : Region.ready .any ops.toArray listed = [] := by
      cases hr : Region.ready .any ops.toArray listed with
      | nil => rfl
      | cons i r =>
        have hi : i ∈ Region.ready .any ops.toArray listed := by rw [hr]; simp
        rw [mem_ready] at hi
        obtain ⟨hl, o, ho, hb⟩ := hi
        have ho : ops[i]? = some o := by simpa using ho
        have hlt : i < ops.length := (List.getElem?_eq_some_iff.1 ho).1
        have hLi : listed.getD i false = false := by
          have : i < listed.size := by omega
          simp [this] at hl ⊢
          exact hl
        have := left_set hlt (by omega) hLi
        omega
    exact ⟨hnone, hq _ (alldone listed hs hnone) a w hI⟩
  | succ fuel ih =>
    intro listed a w hs hf hc hI
    refine ⟨fun hnone => hq _ (alldone listed hs hnone) a w hI, fun i hi => step listed a w hs hc hI i hi _ fun a' w' h1 h2 h3 => ih _ a' w' (by simp [hs]) (by omega) h1 h2⟩

/-- The rule. -/
theorem xdraw {id : Nat} (hmix : P.follows .mixedOrders = true) (hok : opsOk n ops = true) (hd : drawOk ops = true) {K : Fr → Mem → Prop} {M : Mem}
    (h : ∀ n0, (∀ j, n0 ≤ j → M j = none) → ∃ v mem Mf, Plan P ops fr n0 v mem ∧ (∀ L, (∀ i, L i = false) → (mem L).le M) ∧ (∀ L, (∀ i, i < ops.length → L i = true) → Mem.le Mf (mem L)) ∧ K (frT ops v fr ops.length) Mf) : XDraw P n id ops.toArray K fr M := by
  intro g0 w0 a0 hP hF hR
  obtain ⟨n0, hn⟩ := hR.fin
  obtain ⟨v, mem, Mf, pl, hbeg, hend, hk⟩ := h n0 fun j hj => (hn j hj).2.1
  obtain ⟨ed, hRd⟩ := rel_drew hR
  have hfil : listedF (Array.replicate ops.toArray.size false) = fun _ => false := by
    funext i
    simp only [listedF, List.size_toArray]
    by_cases hi : i < ops.length <;> simp [hi]
  refine wp_region_any hmix (draw_any (P := P) (n := n) (fr := fr) (v := v) (mem := mem) (n0 := n0) (g0 := g0) (w0 := w0) hP hok hd pl (fun id hid => ⟨(hn id hid).1, (hn id hid).2.2⟩) (fun L hL a w hI => ?_) ops.toArray.size _ a0 w0.drew (by simp) ?_ ?_ ?_)
  · obtain ⟨g, e, hF', hR'⟩ := hI
    rw [frS_all ops.length hL] at hF'
    have hno : ∀ id, resS g0 n0 ops.length L id ↔ g0.res id := fun id => by
      refine ⟨fun h => ?_, fun h => .inl h⟩
      rcases h with h | ⟨j, hj, hLj, _⟩
      · exact h
      · rw [hL j hj] at hLj; cases hLj
    refine ⟨.normal, _, Mf, g.rsd g0.res, rfl, hk, ⟨e.w0, e.P, e.blk, e.fz, e.cell, rfl, fun id hr hb => e.rsv id ((hno id).2 hr) hb⟩, hF'.rsd _, (hR'.rsd _ ⟨n0, fun id hid => (hn id hid).2.2⟩).le (hend L hL)⟩
  · unfold left
    refine Nat.le_trans (List.countP_le_length) (by simp)
  · rw [hfil]
    intro i o ho h
    cases h
  · rw [hfil]
    refine ⟨g0.rsd (resS g0 n0 ops.length fun _ => false), ⟨ed.w0, ed.P, ed.blk, ed.fz, ed.cell, rfl, fun id _ hb => hb⟩, ?_, ?_⟩
    · rw [frS_none ops.length fun _ _ => rfl]
      exact (hF.ev ed).rsd _
    · refine (hRd.rsd _ ⟨n0 + ops.length, fun id hid => ?_⟩).le (hbeg _ fun _ => rfl)
      rintro (h | ⟨j, hj, hLj, rfl⟩)
      · exact (hn id (by omega)).2.2 h
      · omega
end

end Go.X
set_option linter.unusedVariables false
set_option linter.unusedSimpArgs false
set_option linter.unusedSectionVars false
set_option maxRecDepth 100000
namespace Go.X
open Go.RowKit

class KonV where
  k : AV → Prop
/-- A call that changes nothing. -/
def dcallI (P : Program) (f : FuncId) (args : List AV) (M : Mem) [c : KonV] : Prop := ∃ v, XCalls P f args M (fun x M' => x = v ∧ M.le M') ∧ c.k v
theorem dcallI_of {P : Program} {f : FuncId} {args : List AV} {M : Mem} {C : AV → Prop} {v : AV} (h : XCalls P f args M fun x M' => x = v ∧ M' = M) (hc : C v) : @dcallI P f args M ⟨C⟩ :=
  ⟨v, h.mono fun _ _ ⟨a, b⟩ => ⟨a, by rw [b]; exact Mem.le_refl M⟩, hc⟩

def dop (P : Program) (op : Op) (fr : Fr) (M : Mem) (C : AV → Prop) : Prop :=
  match op with
  | .move x => C (ev fr x)
  | .assign x => C (ev fr x)
  | .pick c a b => pickK (ev fr c) (ev fr a) (ev fr b) C
  | .build t parts => optK (buildA P t (parts.toList.map fun p => (p.1, ev fr p.2))) C
  | .load t x => optK (loadA P M t (ev fr x)) C
  | .nilCheck x => optK (nilChk (ev fr x)) C
  | .binOp op t x y _ => isNilS y = false ∧ binK P op t x y (ev fr x) (ev fr y) C
  | .unOp op _ x => optK (unA op (ev fr x)) C
  | .convert s d x => optK (convA P s d (ev fr x)) C
  | .slice t x lo hi mx => optK (sliceA P M t (ev fr x) (lo.map (ev fr)) (hi.map (ev fr)) (mx.map (ev fr))) C
  | .fieldAddr s x f => optK (fieldAddrA P s (ev fr x) f) C
  | .field t x f => optK (fieldA P t (ev fr x) f) C
  | .indexAddr t x i => optK (indexAddrA P M t (ev fr x) (ev fr i)) C
  | .index t x i => optK (indexA P t (ev fr x) (ev fr i)) C
  | .lookup t m k ok => optK (lookupA P M t (ev fr m) (ev fr k) ok) C
  | .extract x i => optK (extractA (ev fr x) i) C
  | .call c => match c.callee with
    | .value (.func f) => @dcallI P f (c.args.toList.map (ev fr)) M ⟨C⟩
    | .builtin .len => (match c.argTypes.toList, c.args.toList.map (ev fr) with | [t], [x] => optK (lenA P M t x) C | _, _ => False)
    | .builtin .min => (match c.argTypes.toList, c.args.toList.map (ev fr) with | [_, _], [.l (.int k x), .l (.int _ y)] => C (.l (.int k (if y < x then y else x))) | _, _ => False)
    | .builtin .max => (match c.argTypes.toList, c.args.toList.map (ev fr) with | [_, _], [.l (.int k x), .l (.int _ y)] => C (.l (.int k (if y > x then y else x))) | _, _ => False)
    | _ => False
  | _ => False

theorem binK_det {P : Program} {op : BinOp} {t : TypeId} {x y : Operand} {a b : AV} {C : AV → Prop} (hn : isNilS y = false) (h : binK P op t x y a b C) : ∃ v, C v ∧ binK P op t x y a b fun u => u = v := by
  unfold binK at h ⊢
  split at h
  · split at h
    · rename_i hkk
      obtain ⟨v, hv, hc⟩ := optK_elim h
      exact ⟨_, hc, by rw [if_pos hkk, hv]; exact rfl⟩
    · rename_i hkk
      obtain ⟨v, hv, hc⟩ := optK_elim h
      exact ⟨_, hc, by rw [if_neg hkk, hv]; exact rfl⟩
  · rw [hn] at h ⊢
    cases op <;> simp only [Bool.false_eq_true, if_false] at h ⊢
    case add => 
      split at h
      · exact ⟨_, h.2, h.1, rfl⟩
      · exact h.elim
    case eql =>
      obtain ⟨v, hv, hc⟩ := optK_elim h
      exact ⟨_, hc, by rw [hv]; exact rfl⟩
    case neq =>
      obtain ⟨v, hv, hc⟩ := optK_elim h
      exact ⟨_, hc, by rw [hv]; exact rfl⟩
    all_goals exact h.elim

theorem dop_sound {N : (Nat → Prop) → Prop} {P : Program} {op : Op} {fr : Fr} {M : Mem} {C : AV → Prop} (h : dop P op fr M C) : ∃ v, C v ∧ vopcG N P op fr M fun x M' => x = v ∧ M.le M' := by
  have le := Mem.le_refl M
  have O : ∀ (o : Option AV), optK o C → ∃ v, C v ∧ optK o fun x => x = v ∧ M.le M := fun o ho => by
    obtain ⟨v, hv, hc⟩ := optK_elim ho
    exact ⟨v, hc, by rw [hv]; exact ⟨rfl, le⟩⟩
  cases op with
  | move x => exact ⟨_, h, rfl, le⟩
  | assign x => exact ⟨_, h, rfl, le⟩
  | pick c x y =>
    simp only [dop] at h
    simp only [vopcG]
    unfold pickK at h ⊢
    split at h
    · exact ⟨_, h, rfl, le⟩
    · exact h.elim
  | build t parts => exact O _ h
  | load t x => exact O _ h
  | nilCheck x => exact O _ h
  | binOp op t x y u =>
    obtain ⟨v, hv, hb⟩ := binK_det h.1 h.2
    refine ⟨v, hv, ?_⟩
    simp only [vopcG]
    have : (fun x => x = v) = fun x => x = v ∧ M.le M := by funext x; simp [le]
    rw [← this]; exact hb
  | unOp op t x => exact O _ h
  | convert s d x =>
    obtain ⟨v, hv, hc⟩ := optK_elim h
    refine O (convM P M s d (ev fr x)) ?_
    rw [convM_of hv]
    exact hc
  | slice t x lo hi mx => exact O _ h
  | fieldAddr s x f => exact O _ h
  | field t x f => exact O _ h
  | indexAddr t x i => exact O _ h
  | index t x i => exact O _ h
  | lookup t m k ok => exact O _ h
  | extract x i => exact O _ h
  | call c =>
    simp only [dop] at h
    simp only [vopcG]
    unfold callG
    split at h
    · rename_i f hc
      obtain ⟨v, hx, hcv⟩ := h
      exact ⟨v, hcv, by rw [hc]; exact hx.n⟩
    · rename_i hc
      split at h
      · rename_i t x h1 h2
        obtain ⟨v, hv, hcv⟩ := optK_elim h
        refine ⟨v, hcv, ?_⟩
        rw [hc]
        simp only [h1, h2, builtG, hv, optK]
        exact ⟨trivial, le⟩
      · exact h.elim
    · rename_i hc
      split at h
      · rename_i t1 t2 k x k' y h1 h2
        refine ⟨_, h, ?_⟩
        rw [hc]
        simp only [h1, h2, builtG]
        exact ⟨trivial, le⟩
      · exact h.elim
    · rename_i hc
      split at h
      · rename_i t1 t2 k x k' y h1 h2
        refine ⟨_, h, ?_⟩
        rw [hc]
        simp only [h1, h2, builtG]
        exact ⟨trivial, le⟩
      · exact h.elim
    · exact h.elim
  | _ => exact h.elim

def vdr (P : Program) (ops : List Oper) : List Oper → (Fr → Prop) → Fr → Mem → Prop
  | [], K, fr, M => K fr
  | o :: rest, K, fr, M =>
    match o.guard with
    | none => dop P o.op fr M fun v => vdr P ops rest K (updO fr o.dst v) M
    | some (j, u) => match gslot ops j with
      | some d => gK (fr d) u (dop P o.op fr M fun v => vdr P ops rest K (updO fr o.dst v) M) (vdr P ops rest K (updO fr o.dst (.tup [])) M)
      | none => False

theorem vdr_plan {P : Program} {ops : List Oper} {fr : Fr} {M : Mem} (n0 : Nat) (hM : ∀ j, n0 ≤ j → M j = none) {K : Fr → Prop} (rest : List Oper) : ∀ (k : Nat) (v : Nat → AV), ops.drop k = rest → 
    (∀ i o, i < k → ops[i]? = some o → ∃ b, Runs ops o (frT ops v fr i) b ∧ (b = false → v i = .tup []) ∧ (b = true → vopcG (fun F => F (n0 + i)) P o.op (frT ops v fr i) M fun x M' => x = v i ∧ M.le M')) →
    vdr P ops rest K (frT ops v fr k) M → ∃ v, Plan P ops fr n0 v (fun _ => M) ∧ K (frT ops v fr ops.length) := by
  induction rest with
  | nil =>
    intro k v hd hf h
    have hk : ops.length ≤ k := by
      have := congrArg List.length hd
      simp at this
      omega
    have hT : ∀ m, ops.length ≤ m → frT ops v fr m = frT ops v fr ops.length := by
      intro m
      induction m with
      | zero => intro h; rw [Nat.le_zero.1 h]
      | succ m ih =>
        intro hm
        by_cases he : ops.length = m + 1
        · rw [he]
        · rw [← ih (by omega), frT]
          have : dstOf ops m = none := by simp [dstOf, List.getElem?_eq_none (show ops.length ≤ m by omega)]
          rw [this]; rfl
    refine ⟨v, ⟨fun i o ho => ?_⟩, by rw [← hT k hk]; exact h⟩
    have hi := (List.getElem?_eq_some_iff.1 ho).1
    obtain ⟨b, h1, h2, h3⟩ := hf i o (by omega) ho
    exact ⟨b, h1, h2, fun L _ _ _ => ⟨fun hb => ⟨hM _ (by omega), h3 hb⟩, fun _ => Mem.le_refl M⟩⟩
  | cons o rest ih =>
    intro k v hd hf h
    have hok : ops[k]? = some o := by
      have := congrArg List.head? hd
      rw [List.head?_drop] at this
      simpa using this
    have hdst : dstOf ops k = o.dst := by simp [dstOf, hok]
    have next : ∀ (u : AV) (b : Bool), Runs ops o (frT ops v fr k) b → (b = false → u = .tup []) → (b = true → vopcG (fun F => F (n0 + k)) P o.op (frT ops v fr k) M fun x M' => x = u ∧ M.le M') →
        vdr P ops rest K (updO (frT ops v fr k) o.dst u) M → ∃ v, Plan P ops fr n0 v (fun _ => M) ∧ K (frT ops v fr ops.length) := by
      intro u b hr hb hv hk
      have hcong : ∀ i, i ≤ k → frT ops (fun j => if j = k then u else v j) fr i = frT ops v fr i := fun i hi => frT_congr i fun j hj => by
        have : j ≠ k := by omega
        simp [this]
      refine ih (k + 1) (fun j => if j = k then u else v j) (by rw [← List.drop_drop, hd]; rfl) (fun i o' hi ho' => ?_) ?_
      · rw [hcong i (by omega)]
        by_cases hik : i = k
        · subst hik
          rw [hok, Option.some.injEq] at ho'
          subst ho'
          exact ⟨b, hr, fun h => by simp [hb h], fun h => by simpa using hv h⟩
        · obtain ⟨b', h1, h2, h3⟩ := hf i o' (by omega) ho'
          exact ⟨b', h1, fun h => by simpa [hik] using h2 h, fun h => by simpa [hik] using h3 h⟩
      · rw [frT, hcong k (Nat.le_refl _), hdst]
        simpa using hk
    simp only [vdr] at h
    split at h
    · rename_i hg
      obtain ⟨u, hc, hv⟩ := dop_sound (N := fun F => F (n0 + k)) h
      exact next u true (by simp [Runs, hg]) (by simp) (fun _ => hv) hc
    · rename_i j u hg
      split at h
      · rename_i d hgs
        unfold gK at h
        split at h
        · rename_i c hfd
          by_cases hcu : c = u
          · subst hcu
            obtain ⟨x, hc, hv⟩ := dop_sound (N := fun F => F (n0 + k)) (h.1 rfl)
            exact next x true (by rw [Runs, hg]; exact ⟨d, hgs, .inl ⟨c, hfd, by simp⟩⟩) (by simp) (fun _ => hv) hc
          · have hcu' : c = !u := by revert hcu; cases c <;> cases u <;> simp
            exact next (.tup []) false (by rw [Runs, hg]; exact ⟨d, hgs, .inl ⟨c, hfd, by simp [hcu]⟩⟩) (fun _ => rfl) (by simp) (h.2 hcu')
        · rename_i hfd
          exact next (.tup []) false (by rw [Runs, hg]; exact ⟨d, hgs, .inr ⟨hfd, rfl⟩⟩) (fun _ => rfl) (by simp) h
        · exact h.elim
      · exact h.elim

/-- A drawn region that changes nothing: walk it in the text's order. -/
theorem xquiet {P : Program} {n id : Nat} {ops : List Oper} {fr : Fr} {M : Mem} {K : Fr → Mem → Prop} (hmix : P.follows .mixedOrders = true) (hok : opsOk n ops = true) (hd : drawOk ops = true) (h : vdr P ops ops (fun fr => K fr M) fr M) : @drawI P n id ops.toArray fr M ⟨K⟩ :=
  drawI_of (xdraw hmix hok hd fun n0 hn0 => by
    obtain ⟨v, pl, hk⟩ := vdr_plan (P := P) (ops := ops) (fr := fr) n0 hn0 (K := fun fr => K fr M) ops 0 (fun _ => .any) rfl (fun i o hi => by omega) h
    exact ⟨v, fun _ => M, M, pl, fun _ _ => Mem.le_refl M, fun _ _ => Mem.le_refl M, hk⟩)

/-! ### the walk's equations -/
def minI (a b : AV) [c : KonV] : Prop := match a, b with | .l (.int k x), .l (.int _ y) => c.k (.l (.int k (if y < x then y else x))) | _, _ => False
def maxI (a b : AV) [c : KonV] : Prop := match a, b with | .l (.int k x), .l (.int _ y) => c.k (.l (.int k (if y > x then y else x))) | _, _ => False
theorem minI_int (k k' : IntKind) (x y : Int) (C : AV → Prop) : @minI (.l (.int k x)) (.l (.int k' y)) ⟨C⟩ = C (.l (.int k (if y < x then y else x))) := rfl
theorem maxI_int (k k' : IntKind) (x y : Int) (C : AV → Prop) : @maxI (.l (.int k x)) (.l (.int k' y)) ⟨C⟩ = C (.l (.int k (if y > x then y else x))) := rfl
section
variable (P : Program) (fr : Fr) (M : Mem) (C : AV → Prop)
theorem vdr_nil (ops : List Oper) (K : Fr → Prop) : vdr P ops [] K fr M = K fr := rfl
theorem vdr_plain (ops : List Oper) (dst : Option Tmp) (op : Op) (type : TypeId) (pos : String) (after : Array Edge) (rest : List Oper) (K : Fr → Prop) :
    vdr P ops (⟨dst, op, type, pos, after, none⟩ :: rest) K fr M = dop P op fr M fun v => vdr P ops rest K (updO fr dst v) M := rfl
theorem vdr_guard (ops : List Oper) (dst : Option Tmp) (op : Op) (type : TypeId) (pos : String) (after : Array Edge) (j : Nat) (u : Bool) (rest : List Oper) (K : Fr → Prop) :
    vdr P ops (⟨dst, op, type, pos, after, some (j, u)⟩ :: rest) K fr M = @optI _ (gslot ops j) ⟨fun d => @gI (fr d) u ⟨dop P op fr M fun v => vdr P ops rest K (updO fr dst v) M⟩ ⟨vdr P ops rest K (updO fr dst (.tup [])) M⟩⟩ := by
  unfold optI optK
  simp only [vdr]
  cases gslot ops j <;> rfl
theorem do_move (x : Operand) : dop P (.move x) fr M C = @valI (ev fr x) ⟨C⟩ := rfl
theorem do_assign (x : Operand) : dop P (.assign x) fr M C = @valI (ev fr x) ⟨C⟩ := rfl
theorem do_pick (c a b : Operand) : dop P (.pick c a b) fr M C = @pickI (ev fr c) (ev fr a) (ev fr b) ⟨C⟩ := rfl
theorem do_build (t : TypeId) (l : List (Nat × Operand)) : dop P (.build t l.toArray) fr M C = @optI _ (buildA P t (l.map fun p => (p.1, ev fr p.2))) ⟨C⟩ := rfl
theorem do_load (t : TypeId) (x : Operand) : dop P (.load t x) fr M C = @optI _ (loadA P M t (ev fr x)) ⟨C⟩ := rfl
theorem do_nilCheck (x : Operand) : dop P (.nilCheck x) fr M C = @optI _ (nilChk (ev fr x)) ⟨C⟩ := rfl
theorem do_binOp (op : BinOp) (t : TypeId) (x y : Operand) (u : TypeId) : dop P (.binOp op t x y u) fr M C = (isNilS y = false ∧ @binI P op t x y (ev fr x) (ev fr y) ⟨C⟩) := rfl
theorem do_unOp (op : UnOp) (t : TypeId) (x : Operand) : dop P (.unOp op t x) fr M C = @optI _ (unA op (ev fr x)) ⟨C⟩ := rfl
theorem do_convert (s d : TypeId) (x : Operand) : dop P (.convert s d x) fr M C = @optI _ (convA P s d (ev fr x)) ⟨C⟩ := rfl
theorem do_slice (t : TypeId) (x : Operand) (lo hi mx : Option Operand) : dop P (.slice t x lo hi mx) fr M C = @optI _ (sliceA P M t (ev fr x) (lo.map (ev fr)) (hi.map (ev fr)) (mx.map (ev fr))) ⟨C⟩ := rfl
theorem do_fieldAddr (s : TypeId) (x : Operand) (f : Nat) : dop P (.fieldAddr s x f) fr M C = @optI _ (fieldAddrA P s (ev fr x) f) ⟨C⟩ := rfl
theorem do_field (s : TypeId) (x : Operand) (f : Nat) : dop P (.field s x f) fr M C = @optI _ (fieldA P s (ev fr x) f) ⟨C⟩ := rfl
theorem do_indexAddr (t : TypeId) (x i : Operand) : dop P (.indexAddr t x i) fr M C = @optI _ (indexAddrA P M t (ev fr x) (ev fr i)) ⟨C⟩ := rfl
theorem do_index (t : TypeId) (x i : Operand) : dop P (.index t x i) fr M C = @optI _ (indexA P t (ev fr x) (ev fr i)) ⟨C⟩ := rfl
theorem do_lookup (t : TypeId) (m k : Operand) (ok : Bool) : dop P (.lookup t m k ok) fr M C = @optI _ (lookupA P M t (ev fr m) (ev fr k) ok) ⟨C⟩ := rfl
theorem do_extract (x : Operand) (i : Nat) : dop P (.extract x i) fr M C = @optI _ (extractA (ev fr x) i) ⟨C⟩ := rfl
theorem do_call (f : FuncId) (l : List Operand) (ts : Array TypeId) : dop P (.call ⟨.value (.func f), l.toArray, ts⟩) fr M C = @dcallI P f (l.map (ev fr)) M ⟨C⟩ := rfl
theorem do_min (x y : Operand) (t t' : TypeId) : dop P (.call ⟨.builtin .min, #[x, y], #[t, t']⟩) fr M C = @minI (ev fr x) (ev fr y) ⟨C⟩ := by
  unfold minI
  show (match [t, t'], [ev fr x, ev fr y] with | [_, _], [.l (.int k x), .l (.int _ y)] => _ | _, _ => False) = _
  split
  · simp_all
  · rename_i h
    split
    · rename_i e1 e2
      exact (h _ _ _ _ _ _ rfl (by rw [e1, e2])).elim
    · rfl
theorem do_max (x y : Operand) (t t' : TypeId) : dop P (.call ⟨.builtin .max, #[x, y], #[t, t']⟩) fr M C = @maxI (ev fr x) (ev fr y) ⟨C⟩ := by
  unfold maxI
  show (match [t, t'], [ev fr x, ev fr y] with | [_, _], [.l (.int k x), .l (.int _ y)] => _ | _, _ => False) = _
  split
  · simp_all
  · rename_i h
    split
    · rename_i e1 e2
      exact (h _ _ _ _ _ _ rfl (by rw [e1, e2])).elim
    · rfl
theorem do_len (x : Operand) (t : TypeId) : dop P (.call ⟨.builtin .len, #[x], #[t]⟩) fr M C = @optI _ (lenA P M t (ev fr x)) ⟨C⟩ := rfl
end
theorem isNilS_tmp (t : Tmp) : isNilS (.tmp t) = false := rfl
theorem isNilS_int (k : IntKind) (n : Int) : isNilS (.const (.int k n)) = false := rfl
theorem isNilS_bool (b : Bool) : isNilS (.const (.bool b)) = false := rfl

end Go.X
set_option linter.unusedVariables false
set_option linter.unusedSimpArgs false
set_option linter.unusedSectionVars false
set_option maxRecDepth 100000
namespace Go.X
open Go.RowKit

structure Pr where
  key : Int
  val : Int
  deriving DecidableEq, Inhabited
def Pr.row (p : Pr) : List Lf := [.int .i64 p.key, .int .i64 p.val]
structure Opn where
  kind : Int
  key : Int
  to : Int
  val : Int
  deriving DecidableEq, Inhabited
def Opn.row (o : Opn) : List Lf := [.int .i64 o.kind, .int .i64 o.key, .int .i64 o.to, .int .i64 o.val]
structure Ans where
  err : Int
  ok : Bool
  pair : Pr
  n : Int
  pairs : List Pr
  deriving DecidableEq, Inhabited
def Ans.row (a : Ans) : List Lf := [.int .i64 a.err, .bool a.ok, .int .i64 a.pair.key, .int .i64 a.pair.val, .int .i64 a.n, .sl (a.pairs.map Pr.row)]
structure Evt where
  who : Int
  ret : Bool
  op : Opn
  ans : Ans
  deriving DecidableEq, Inhabited
def Evt.row (e : Evt) : List Lf := [.int .i64 e.who, .bool e.ret, .int .i64 e.op.kind, .int .i64 e.op.key, .int .i64 e.op.to, .int .i64 e.op.val,
  .int .i64 e.ans.err, .bool e.ans.ok, .int .i64 e.ans.pair.key, .int .i64 e.ans.pair.val, .int .i64 e.ans.n, .sl (e.ans.pairs.map Pr.row)]
structure Cl where
  who : Int
  beg : Int
  fin : Int
  op : Opn
  ans : Ans
  deriving DecidableEq, Inhabited
def Cl.row (c : Cl) : List Lf := [.int .i64 c.who, .int .i64 c.beg, .int .i64 c.fin, .int .i64 c.op.kind, .int .i64 c.op.key, .int .i64 c.op.to, .int .i64 c.op.val,
  .int .i64 c.ans.err, .bool c.ans.ok, .int .i64 c.ans.pair.key, .int .i64 c.ans.pair.val, .int .i64 c.ans.n, .sl (c.ans.pairs.map Pr.row)]

def irow (n : Int) : List Lf := [.int .i64 n]
def oprow (l : List Opn) : List Lf := [.sl (l.map Opn.row)]
structure Pol where
  high : Int
  low : Int
  cont : Int
  unc : Int
  multi : Int
  deriving DecidableEq, Inhabited
def Pol.row (p : Pol) : List Lf := [.int .i64 p.high, .int .i64 p.low, .int .i64 p.cont, .int .i64 p.unc, .int .i64 p.multi]
structure Scr where
  threads : Int
  cells : Int
  pol : Pol
  beg : List Pr
  ops : List (List Opn)
  picks : List Int
  deriving DecidableEq, Inhabited
def Scr.row (s : Scr) : List Lf := [.int .i64 s.threads, .int .i64 s.cells, .int .i64 s.pol.high, .int .i64 s.pol.low, .int .i64 s.pol.cont, .int .i64 s.pol.unc, .int .i64 s.pol.multi,
  .sl (s.beg.map Pr.row), .sl (s.ops.map oprow), .sl (s.picks.map irow)]

/-- A node of a tree. -/
structure Nd where
  route : Bool
  key : Int
  left : Int
  right : Int
  pairs : List Pr
  stat : Int
  deriving DecidableEq, Inhabited
def Nd.row (n : Nd) : List Lf := [.bool n.route, .int .i64 n.key, .int .i64 n.left, .int .i64 n.right, .sl (n.pairs.map Pr.row), .int .i64 n.stat]
def brow (b : Bool) : List Lf := [.bool b]
theorem row_nd (n : Nd) : n.row = [.bool n.route, .int .i64 n.key, .int .i64 n.left, .int .i64 n.right, .sl (n.pairs.map Pr.row), .int .i64 n.stat] := rfl
theorem row_b (b : Bool) : brow b = [.bool b] := rfl
theorem row_pr (p : Pr) : p.row = [.int .i64 p.key, .int .i64 p.val] := rfl
theorem row_opn (o : Opn) : o.row = [.int .i64 o.kind, .int .i64 o.key, .int .i64 o.to, .int .i64 o.val] := rfl
theorem row_ans (a : Ans) : a.row = [.int .i64 a.err, .bool a.ok, .int .i64 a.pair.key, .int .i64 a.pair.val, .int .i64 a.n, .sl (a.pairs.map Pr.row)] := rfl
theorem row_evt (e : Evt) : e.row = [.int .i64 e.who, .bool e.ret, .int .i64 e.op.kind, .int .i64 e.op.key, .int .i64 e.op.to, .int .i64 e.op.val,
  .int .i64 e.ans.err, .bool e.ans.ok, .int .i64 e.ans.pair.key, .int .i64 e.ans.pair.val, .int .i64 e.ans.n, .sl (e.ans.pairs.map Pr.row)] := rfl
theorem row_cl (c : Cl) : c.row = [.int .i64 c.who, .int .i64 c.beg, .int .i64 c.fin, .int .i64 c.op.kind, .int .i64 c.op.key, .int .i64 c.op.to, .int .i64 c.op.val,
  .int .i64 c.ans.err, .bool c.ans.ok, .int .i64 c.ans.pair.key, .int .i64 c.ans.pair.val, .int .i64 c.ans.n, .sl (c.ans.pairs.map Pr.row)] := rfl
theorem row_i (n : Int) : irow n = [.int .i64 n] := rfl
theorem row_ops (l : List Opn) : oprow l = [.sl (l.map Opn.row)] := rfl
theorem row_pol (p : Pol) : p.row = [.int .i64 p.high, .int .i64 p.low, .int .i64 p.cont, .int .i64 p.unc, .int .i64 p.multi] := rfl
theorem row_scr (s : Scr) : s.row = [.int .i64 s.threads, .int .i64 s.cells, .int .i64 s.pol.high, .int .i64 s.pol.low, .int .i64 s.pol.cont, .int .i64 s.pol.unc, .int .i64 s.pol.multi,
  .sl (s.beg.map Pr.row), .sl (s.ops.map oprow), .sl (s.picks.map irow)] := rfl

/-- An element of a list of rows, at an index that is an integer. -/
theorem ia_rows {α : Type} (row : α → List Lf) (d : α) (sz : Nat) (hrow : ∀ x, (row x).length = sz) (P : Program) (M : Mem) (t : TypeId) (l : List α) (k : IntKind) (n : Int) (h0 : 0 ≤ n) (h1 : n < l.length) :
    indexAddrA P M t (.l (.sl (l.map row))) (.l (.int k n)) = (match tiOf P t with
      | some ti => match ti.d with
        | .slice e => match tiOf P e with
          | some te => if sz = te.size then some (.l (.rp (row (l.getD n.toNat d)))) else none
          | none => none
        | _ => none
      | none => none) := by
  have hlt : n.toNat < l.length := by omega
  have hget : (l.map row)[n.toNat]? = some (row (l.getD n.toNat d)) := by
    rw [List.getElem?_map, List.getElem?_eq_getElem hlt, List.getD_eq_getElem?_getD, List.getElem?_eq_getElem hlt]; rfl
  unfold indexAddrA
  cases hti : tiOf P t with
  | none => rfl
  | some ti =>
    cases ti with
    | mk s a b z d =>
      cases d with
      | slice e =>
        simp only
        cases hte : tiOf P e with
        | none => rfl
        | some te =>
          simp only [List.length_map, hget, hrow]
          rw [if_pos ⟨h0, h1⟩]
      | array len e =>
        simp only
        cases hte : tiOf P e <;> rfl
      | _ => rfl

theorem ia_pr (P : Program) (M : Mem) (t : TypeId) (l : List Pr) (k : IntKind) (n : Int) (h0 : 0 ≤ n) (h1 : n < l.length) :
    indexAddrA P M t (.l (.sl (l.map Pr.row))) (.l (.int k n)) = (match tiOf P t with
      | some ti => match ti.d with
        | .slice e => match tiOf P e with
          | some te => if 2 = te.size then some (.l (.rp (Pr.row (l.getD n.toNat default)))) else none
          | none => none
        | _ => none
      | none => none) := ia_rows Pr.row default 2 (fun _ => rfl) P M t l k n h0 h1
theorem ia_opn (P : Program) (M : Mem) (t : TypeId) (l : List Opn) (k : IntKind) (n : Int) (h0 : 0 ≤ n) (h1 : n < l.length) :
    indexAddrA P M t (.l (.sl (l.map Opn.row))) (.l (.int k n)) = (match tiOf P t with
      | some ti => match ti.d with
        | .slice e => match tiOf P e with
          | some te => if 4 = te.size then some (.l (.rp (Opn.row (l.getD n.toNat default)))) else none
          | none => none
        | _ => none
      | none => none) := ia_rows Opn.row default 4 (fun _ => rfl) P M t l k n h0 h1
theorem ia_ans (P : Program) (M : Mem) (t : TypeId) (l : List Ans) (k : IntKind) (n : Int) (h0 : 0 ≤ n) (h1 : n < l.length) :
    indexAddrA P M t (.l (.sl (l.map Ans.row))) (.l (.int k n)) = (match tiOf P t with
      | some ti => match ti.d with
        | .slice e => match tiOf P e with
          | some te => if 6 = te.size then some (.l (.rp (Ans.row (l.getD n.toNat default)))) else none
          | none => none
        | _ => none
      | none => none) := ia_rows Ans.row default 6 (fun _ => rfl) P M t l k n h0 h1
theorem ia_evt (P : Program) (M : Mem) (t : TypeId) (l : List Evt) (k : IntKind) (n : Int) (h0 : 0 ≤ n) (h1 : n < l.length) :
    indexAddrA P M t (.l (.sl (l.map Evt.row))) (.l (.int k n)) = (match tiOf P t with
      | some ti => match ti.d with
        | .slice e => match tiOf P e with
          | some te => if 12 = te.size then some (.l (.rp (Evt.row (l.getD n.toNat default)))) else none
          | none => none
        | _ => none
      | none => none) := ia_rows Evt.row default 12 (fun _ => rfl) P M t l k n h0 h1
theorem ia_cl (P : Program) (M : Mem) (t : TypeId) (l : List Cl) (k : IntKind) (n : Int) (h0 : 0 ≤ n) (h1 : n < l.length) :
    indexAddrA P M t (.l (.sl (l.map Cl.row))) (.l (.int k n)) = (match tiOf P t with
      | some ti => match ti.d with
        | .slice e => match tiOf P e with
          | some te => if 13 = te.size then some (.l (.rp (Cl.row (l.getD n.toNat default)))) else none
          | none => none
        | _ => none
      | none => none) := ia_rows Cl.row default 13 (fun _ => rfl) P M t l k n h0 h1
theorem ia_nd (P : Program) (M : Mem) (t : TypeId) (l : List Nd) (k : IntKind) (n : Int) (h0 : 0 ≤ n) (h1 : n < l.length) :
    indexAddrA P M t (.l (.sl (l.map Nd.row))) (.l (.int k n)) = (match tiOf P t with
      | some ti => match ti.d with
        | .slice e => match tiOf P e with
          | some te => if 6 = te.size then some (.l (.rp (Nd.row (l.getD n.toNat default)))) else none
          | none => none
        | _ => none
      | none => none) := ia_rows Nd.row default 6 (fun _ => rfl) P M t l k n h0 h1
theorem ia_i (P : Program) (M : Mem) (t : TypeId) (l : List Int) (k : IntKind) (n : Int) (h0 : 0 ≤ n) (h1 : n < l.length) :
    indexAddrA P M t (.l (.sl (l.map irow))) (.l (.int k n)) = (match tiOf P t with
      | some ti => match ti.d with
        | .slice e => match tiOf P e with
          | some te => if 1 = te.size then some (.l (.rp (irow (l.getD n.toNat default)))) else none
          | none => none
        | _ => none
      | none => none) := ia_rows irow default 1 (fun _ => rfl) P M t l k n h0 h1
theorem ia_ops (P : Program) (M : Mem) (t : TypeId) (l : List (List Opn)) (k : IntKind) (n : Int) (h0 : 0 ≤ n) (h1 : n < l.length) :
    indexAddrA P M t (.l (.sl (l.map oprow))) (.l (.int k n)) = (match tiOf P t with
      | some ti => match ti.d with
        | .slice e => match tiOf P e with
          | some te => if 1 = te.size then some (.l (.rp (oprow (l.getD n.toNat default)))) else none
          | none => none
        | _ => none
      | none => none) := ia_rows oprow default 1 (fun _ => rfl) P M t l k n h0 h1
theorem ia_ms (P : Program) (M : Mem) (t : TypeId) (id off len : Nat) (k : IntKind) (n : Int) (h0 : 0 ≤ n) (h1 : n < len) :
    indexAddrA P M t (.l (.ms id off len)) (.l (.int k n)) = (match tiOf P t with
      | some ti => match ti.d with
        | .slice e => match tiOf P e with
          | some te => (match M id with
            | some (.cells T _ _) => if T = e then some (.l (.ptr id (off + n.toNat) 0)) else none
            | _ => none)
          | none => none
        | _ => none
      | none => none) := by
  unfold indexAddrA
  cases hti : tiOf P t with
  | none => rfl
  | some ti =>
    cases ti with
    | mk s a b z d =>
      cases d with
      | slice e =>
        simp only
        cases hte : tiOf P e with
        | none => rfl
        | some te =>
          simp only
          rw [if_pos ⟨h0, h1⟩]
          rfl
      | array len e =>
        simp only
        cases hte : tiOf P e <;> rfl
      | _ => rfl
theorem ia_ptr (P : Program) (M : Mem) (t : TypeId) (id r c : Nat) (k : IntKind) (n : Int) :
    indexAddrA P M t (.l (.ptr id r c)) (.l (.int k n)) = (match tiOf P t with
      | some ti => match ti.d with
        | .array len e => match tiOf P e with
          | some te => if 0 ≤ n ∧ n < len then some (.l (.ptr id r (c + n.toNat * te.size))) else none
          | none => none
        | _ => none
      | none => none) := by
  unfold indexAddrA
  cases hti : tiOf P t with
  | none => rfl
  | some ti =>
    cases ti with
    | mk s a b z d =>
      cases d with
      | slice e =>
        simp only
        cases hte : tiOf P e <;> rfl
      | array len e =>
        simp only
        cases hte : tiOf P e <;> rfl
      | _ => rfl

theorem rg_pr (l : List Pr) (i : Nat) (h : i < l.length) : (l.map Pr.row)[i]? = some (Pr.row (l.getD i default)) := by
  rw [List.getElem?_map, List.getElem?_eq_getElem h, List.getD_eq_getElem?_getD, List.getElem?_eq_getElem h]; rfl
theorem rg_opn (l : List Opn) (i : Nat) (h : i < l.length) : (l.map Opn.row)[i]? = some (Opn.row (l.getD i default)) := by
  rw [List.getElem?_map, List.getElem?_eq_getElem h, List.getD_eq_getElem?_getD, List.getElem?_eq_getElem h]; rfl
theorem rg_ans (l : List Ans) (i : Nat) (h : i < l.length) : (l.map Ans.row)[i]? = some (Ans.row (l.getD i default)) := by
  rw [List.getElem?_map, List.getElem?_eq_getElem h, List.getD_eq_getElem?_getD, List.getElem?_eq_getElem h]; rfl
theorem rg_nd (l : List Nd) (i : Nat) (h : i < l.length) : (l.map Nd.row)[i]? = some (Nd.row (l.getD i default)) := by
  rw [List.getElem?_map, List.getElem?_eq_getElem h, List.getD_eq_getElem?_getD, List.getElem?_eq_getElem h]; rfl
theorem rg_b (l : List Bool) (i : Nat) (h : i < l.length) : (l.map brow)[i]? = some (brow (l.getD i default)) := by
  rw [List.getElem?_map, List.getElem?_eq_getElem h, List.getD_eq_getElem?_getD, List.getElem?_eq_getElem h]; rfl
theorem rg_evt (l : List Evt) (i : Nat) (h : i < l.length) : (l.map Evt.row)[i]? = some (Evt.row (l.getD i default)) := by
  rw [List.getElem?_map, List.getElem?_eq_getElem h, List.getD_eq_getElem?_getD, List.getElem?_eq_getElem h]; rfl
theorem rg_cl (l : List Cl) (i : Nat) (h : i < l.length) : (l.map Cl.row)[i]? = some (Cl.row (l.getD i default)) := by
  rw [List.getElem?_map, List.getElem?_eq_getElem h, List.getD_eq_getElem?_getD, List.getElem?_eq_getElem h]; rfl
theorem rg_i (l : List Int) (i : Nat) (h : i < l.length) : (l.map irow)[i]? = some (irow (l.getD i default)) := by
  rw [List.getElem?_map, List.getElem?_eq_getElem h, List.getD_eq_getElem?_getD, List.getElem?_eq_getElem h]; rfl
theorem rg_ops (l : List (List Opn)) (i : Nat) (h : i < l.length) : (l.map oprow)[i]? = some (oprow (l.getD i default)) := by
  rw [List.getElem?_map, List.getElem?_eq_getElem h, List.getD_eq_getElem?_getD, List.getElem?_eq_getElem h]; rfl
theorem set_get_map {α : Type} (row : α → List Lf) (l : List α) (i : Nat) (r : List Lf) (h : i < l.length) : ((l.map row).set i r)[i]? = some r := by
  rw [List.getElem?_set_self (by simpa using h)]
theorem condI_prop {p : Prop} [Decidable p] {A B : Prop} (h : p → A) (h' : ¬ p → B) : @condI (.l (.bool (decide p))) ⟨A⟩ ⟨B⟩ :=
  ⟨fun e => h (of_decide_eq_true e), fun e => h' (of_decide_eq_false e)⟩
theorem gI_prop {p : Prop} [Decidable p] {A B : Prop} (h : p → A) (h' : ¬ p → B) : @gI (.l (.bool (decide p))) true ⟨A⟩ ⟨B⟩ :=
  ⟨fun e => h (of_decide_eq_true e), fun e => h' (of_decide_eq_false e)⟩
theorem toNat_pred (i : Nat) : ((i : Int) - 1).toNat = i - 1 := by omega
theorem toNat_succ (i : Nat) : ((i : Int) + 1).toNat = i + 1 := by omega
theorem bnd_new {M : Mem} {id id2 : Nat} {b : Blk} (h : ∀ j, id2 ≤ j → (M.set id b) j = none) : id < id2 ∧ ∀ j, id2 ≤ j → M j = none := by
  have key : ∀ j, id2 ≤ j → id ≠ j ∧ M j = none := fun j hj => by
    have := h j hj
    rw [Mem.set_app] at this
    split at this
    · cases this
    · rename_i hne; exact ⟨hne, this⟩
  refine ⟨?_, fun j hj => (key j hj).2⟩
  rcases Nat.lt_or_ge id id2 with h' | h'
  · exact h'
  · exact absurd rfl (key id h').1
theorem le_new {A M : Mem} {id : Nat} {b : Blk} (h : A.le M) (hb : ∀ j, id ≤ j → A j = none) : A.le (M.set id b) := Mem.le_set h (hb id (Nat.le_refl id))
/-- A claim as a Bool. -/
noncomputable def bof (p : Prop) : Bool := @decide p (Classical.propDecidable p)
theorem bof_iff {p : Prop} : bof p = true ↔ p := @decide_eq_true_iff p (Classical.propDecidable p)
theorem bof_not {p : Prop} : bof p = false ↔ ¬ p := @decide_eq_false_iff_not p (Classical.propDecidable p)
theorem bof_true {p : Prop} (h : p) : bof p = true := bof_iff.2 h
theorem bof_false {p : Prop} (h : ¬ p) : bof p = false := bof_not.2 h
theorem bof_congr {p q : Prop} (h : p ↔ q) : bof p = bof q := by rw [propext h]
theorem fin_ok {P : Program} {v : AV} {M : Mem} {K : AV → Mem → Prop} {M' : Mem} (hle : M'.le M) (h : K v M') : @finI P v M ⟨K⟩ := finI_of (XFin.le hle h)

theorem eql_str_t (P : Program) (t : TypeId) (x : Operand) (u : Tmp) (a b : ByteArray) (K : AV → Prop) : @binI P .eql t x (.tmp u) (.l (.str a)) (.l (.str b)) ⟨K⟩ = K (.l (.bool (decide (a = b)))) := eql_str P t x _ a b rfl K
theorem neq_str_t (P : Program) (t : TypeId) (x : Operand) (u : Tmp) (a b : ByteArray) (K : AV → Prop) : @binI P .neq t x (.tmp u) (.l (.str a)) (.l (.str b)) ⟨K⟩ = K (.l (.bool (!decide (a = b)))) := neq_str P t x _ a b rfl K
theorem eql_str_c (P : Program) (t : TypeId) (x : Operand) (s : ByteArray) (a b : ByteArray) (K : AV → Prop) : @binI P .eql t x (.const (.string s)) (.l (.str a)) (.l (.str b)) ⟨K⟩ = K (.l (.bool (decide (a = b)))) := eql_str P t x _ a b rfl K
theorem neq_str_c (P : Program) (t : TypeId) (x : Operand) (s : ByteArray) (a b : ByteArray) (K : AV → Prop) : @binI P .neq t x (.const (.string s)) (.l (.str a)) (.l (.str b)) ⟨K⟩ = K (.l (.bool (!decide (a = b)))) := neq_str P t x _ a b rfl K
theorem isNilS_str (s : ByteArray) : isNilS (.const (.string s)) = false := rfl
theorem eql_nili_n (P : Program) (t : TypeId) (x : Operand) (K : AV → Prop) : @binI P .eql t x (.const .nilIface) (.l .nili) (.l .nili) ⟨K⟩ = @optI _ (eqY P t true (.l .nili) (.l .nili)) ⟨fun r => K (.l (.bool r))⟩ := eql_nili P t x _ (fun _ _ h => by cases h) K
theorem eql_nili_t (P : Program) (t : TypeId) (x : Operand) (d : TypeId) (v : Value) (K : AV → Prop) : @binI P .eql t x (.const .nilIface) (.l (.tok (.iface d v))) (.l .nili) ⟨K⟩ = @optI _ (eqY P t true (.l (.tok (.iface d v))) (.l .nili)) ⟨fun r => K (.l (.bool r))⟩ := eql_nili P t x _ (fun _ _ h => by cases h) K
theorem isNilS_nili : isNilS (.const .nilIface) = false := rfl
theorem eql_agg_t (P : Program) (t : TypeId) (x : Operand) (u : Tmp) (xs ys : List Lf) (K : AV → Prop) : @binI P .eql t x (.tmp u) (.agg xs) (.agg ys) ⟨K⟩ = @optI _ (eqA P t (.agg xs) (.agg ys)) ⟨fun r => K (.l (.bool r))⟩ := eql_agg P t x _ xs ys rfl K
theorem neq_agg_t (P : Program) (t : TypeId) (x : Operand) (u : Tmp) (xs ys : List Lf) (K : AV → Prop) : @binI P .neq t x (.tmp u) (.agg xs) (.agg ys) ⟨K⟩ = @optI _ (eqA P t (.agg xs) (.agg ys)) ⟨fun r => K (.l (.bool (!r)))⟩ := neq_agg P t x _ xs ys rfl K
theorem eql_bool_t (P : Program) (t : TypeId) (x : Operand) (u : Tmp) (a b : Bool) (K : AV → Prop) : @binI P .eql t x (.tmp u) (.l (.bool a)) (.l (.bool b)) ⟨K⟩ = @optI _ (eqA P t (.l (.bool a)) (.l (.bool b))) ⟨fun r => K (.l (.bool r))⟩ := eql_bool P t x _ a b rfl K
theorem neq_bool_t (P : Program) (t : TypeId) (x : Operand) (u : Tmp) (a b : Bool) (K : AV → Prop) : @binI P .neq t x (.tmp u) (.l (.bool a)) (.l (.bool b)) ⟨K⟩ = @optI _ (eqA P t (.l (.bool a)) (.l (.bool b))) ⟨fun r => K (.l (.bool (!r)))⟩ := neq_bool P t x _ a b rfl K
theorem eql_ptr (P : Program) (t : TypeId) (x : Operand) (id r c : Nat) (K : AV → Prop) : @binI P .eql t x (.const (.pointer none)) (.l (.ptr id r c)) (.l .nilp) ⟨K⟩ = @optI _ (eqA P t (.l (.ptr id r c)) (.l .nilp)) ⟨fun r => K (.l (.bool r))⟩ := eql_nilp P t x _ _ rfl (fun _ _ h => by cases h) K
theorem neq_ptr (P : Program) (t : TypeId) (x : Operand) (id r c : Nat) (K : AV → Prop) : @binI P .neq t x (.const (.pointer none)) (.l (.ptr id r c)) (.l .nilp) ⟨K⟩ = @optI _ (eqA P t (.l (.ptr id r c)) (.l .nilp)) ⟨fun r => K (.l (.bool (!r)))⟩ := neq_nilp P t x _ _ rfl (fun _ _ h => by cases h) K
theorem eql_rp (P : Program) (t : TypeId) (x : Operand) (cs : List Lf) (K : AV → Prop) : @binI P .eql t x (.const (.pointer none)) (.l (.rp cs)) (.l .nilp) ⟨K⟩ = @optI _ (eqA P t (.l (.rp cs)) (.l .nilp)) ⟨fun r => K (.l (.bool r))⟩ := eql_nilp P t x _ _ rfl (fun _ _ h => by cases h) K
theorem eql_nil2 (P : Program) (t : TypeId) (x : Operand) (K : AV → Prop) : @binI P .eql t x (.const (.pointer none)) (.l .nilp) (.l .nilp) ⟨K⟩ = @optI _ (eqA P t (.l .nilp) (.l .nilp)) ⟨fun r => K (.l (.bool r))⟩ := eql_nilp P t x _ _ rfl (fun _ _ h => by cases h) K

/-! ### the nil slice is a slice without rows -/
def wkL : Lf → Lf
  | .nils => .sl []
  | x => x
theorem wkL_conc {g : Gh} {w : World} {x : Lf} {v : Value} (h : Conc g w x v) : Conc g w (wkL x) v := by
  cases h with
  | nils => exact .sl0
  | int k n => exact .int k n
  | bool b => exact .bool b
  | str s => exact .str s
  | nilp => exact .nilp
  | ptr h => exact .ptr h
  | rp cs h hc => exact .rp cs h hc
  | sl0 => exact .sl0
  | sl cs hsz hcap h hc => exact .sl cs hsz hcap h hc
  | ms h h1 h2 => exact .ms h h1 h2
  | nilm => exact .nilm
  | mp h => exact .mp h
  | nilf => exact .nilf
  | clo cs hl hc => exact .clo cs hl hc
  | nili => exact .nili
  | tok v h => exact .tok v h
def wkA : AV → AV
  | .l x => .l (wkL x)
  | .agg cs => .agg (cs.map wkL)
  | x => x
def wkT : AV → AV
  | .tup vs => .tup (vs.map wkA)
  | x => wkA x
theorem wkA_conc {g : Gh} {w : World} {x : AV} {v : Value} (h : ConcA g w x v) : ConcA g w (wkA x) v := by
  cases h with
  | l h => exact .l (wkL_conc h)
  | agg vs h =>
    refine .agg vs ⟨by simp [h.1], fun i x v a b => ?_⟩
    rw [List.getElem?_map] at a
    obtain ⟨y, hy, rfl⟩ := Option.map_eq_some_iff.1 a
    exact wkL_conc (h.2 i y v hy b)
  | tup vs hl h => exact .tup vs hl h
  | any v => exact .any v
theorem wkT_conc {g : Gh} {w : World} {x : AV} {v : Value} (h : ConcA g w x v) : ConcA g w (wkT x) v := by
  cases h with
  | tup vs hl h =>
    refine .tup vs (by simp [hl]) fun i x v a b => ?_
    rw [List.getElem?_map] at a
    obtain ⟨y, hy, rfl⟩ := Option.map_eq_some_iff.1 a
    exact wkA_conc (h i y v hy b)
  | l h => exact wkA_conc (.l h)
  | agg vs h => exact wkA_conc (.agg vs h)
  | any v => exact .any v
theorem XFin.wk {P : Program} {v : AV} {M : Mem} {K : AV → Mem → Prop} (h : XFin P (wkT v) M K) : XFin P v M K := fun g w c hP hc hR => h g w c hP (wkT_conc hc) hR
theorem XCalls.wk {P : Program} {f : FuncId} {args : List AV} {M : Mem} {K : AV → Mem → Prop} (h : XCalls P f (args.map wkA) M K) : XCalls P f args M K :=
  ⟨by simpa using h.1, fun g w vs hP hA hR => h.2 g w vs hP ⟨by simpa using hA.1, fun i x v a b => by
    rw [List.getElem?_map] at a
    obtain ⟨y, hy, rfl⟩ := Option.map_eq_some_iff.1 a
    exact wkA_conc (hA.2 i y v hy b)⟩ hR⟩
end Go.X
set_option linter.unusedVariables false
set_option linter.unusedSimpArgs false
set_option linter.unusedSectionVars false
set_option maxRecDepth 100000
namespace Go.X
open Go.RowKit

abbrev Eff := List (Nat × Option Blk)
def updE : Mem → Eff → Mem
  | M, [] => M
  | M, (id, some b) :: e => updE (M.set id b) e
  | M, (id, none) :: e => updE (M.del id) e
def delL : Mem → List Nat → Mem
  | M, [] => M
  | M, id :: r => delL (M.del id) r
theorem delL_nil (M : Mem) : delL M [] = M := rfl
theorem delL_cons (M : Mem) (id : Nat) (r : List Nat) : delL M (id :: r) = delL (M.del id) r := rfl
theorem updE_nil (M : Mem) : updE M [] = M := rfl
theorem updE_some (M : Mem) (id : Nat) (b : Blk) (e : Eff) : updE M ((id, some b) :: e) = updE (M.set id b) e := rfl
theorem updE_none (M : Mem) (id : Nat) (e : Eff) : updE M ((id, none) :: e) = updE (M.del id) e := rfl
theorem delL_some {r : List Nat} : ∀ {M : Mem} {id : Nat} {b : Blk}, (delL M r) id = some b → id ∉ r ∧ M id = some b := by
  induction r with
  | nil => intro M id b h; exact ⟨by simp, h⟩
  | cons x r ih =>
    intro M id b h
    obtain ⟨h1, h2⟩ := ih (M := M.del x) h
    rw [Mem.del_app] at h2
    split at h2
    · cases h2
    · rename_i hx
      exact ⟨by simp only [List.mem_cons, not_or]; exact ⟨fun e => hx e.symm, h1⟩, h2⟩
theorem updE_congr {e : Eff} {id : Nat} : ∀ {M M' : Mem}, M id = M' id → updE M e id = updE M' e id := by
  induction e with
  | nil => intro M M' h; exact h
  | cons p e ih =>
    obtain ⟨x, b⟩ := p
    intro M M' h
    cases b with
    | none => exact ih (by simp only [Mem.del_app, h])
    | some b => exact ih (by simp only [Mem.set_app, h])
theorem updE_other {e : Eff} {id : Nat} (h : ∀ p ∈ e, p.1 ≠ id) : ∀ {M : Mem}, updE M e id = M id := by
  induction e with
  | nil => intro M; rfl
  | cons p e ih =>
    obtain ⟨x, b⟩ := p
    intro M
    have hx : x ≠ id := h (x, b) (by simp)
    have ih := @ih fun p hp => h p (by simp [hp])
    cases b with
    | none => rw [updE_none, ih, Mem.del_app, if_neg hx]
    | some b => rw [updE_some, ih, Mem.set_app, if_neg hx]

/-! ### what is read in a smaller memory is read in a greater one -/
theorem rowOf_le {M M' : Mem} (hle : M.le M') {id r c : Nat} {v : List Lf} (h : rowOf M id r c = some v) : rowOf M' id r c = some v := by
  unfold rowOf at h ⊢
  split at h
  · rename_i T rows keep hM
    rw [hle _ _ hM]; exact h
  · cases h
theorem loadA_le {P : Program} {M M' : Mem} (hle : M.le M') {t : TypeId} {a v : AV} (h : loadA P M t a = some v) : loadA P M' t a = some v := by
  unfold loadA at h ⊢
  split at h
  · exact h
  · obtain ⟨x, hx, hp⟩ := Option.bind_eq_some_iff.1 h
    simp only [rowOf_le hle hx]
    exact hp
  · cases h
theorem indexAddrA_le {P : Program} {M M' : Mem} (hle : M.le M') {t : TypeId} {a i v : AV} (h : indexAddrA P M t a i = some v) : indexAddrA P M' t a i = some v := by
  unfold indexAddrA at h ⊢
  split at h
  · split at h
    · split at h
      · exact h
      · split at h
        · rename_i hn
          split at h
          · rename_i T rows keep hM
            simp only [hle _ _ hM]
            rw [if_pos hn]; exact h
          · cases h
        · cases h
      · cases h
    · exact h
    · cases h
  · cases h
theorem entsA_le {M M' : Mem} (hle : M.le M') {m : AV} {es : List (Lf × Lf)} (h : entsA M m = some es) : entsA M' m = some es := by
  unfold entsA at h ⊢
  split at h
  · exact h
  · split at h
    · rename_i id es' hM
      simp only [hle _ _ hM]; exact h
    · cases h
  · cases h
theorem lookupA_le {P : Program} {M M' : Mem} (hle : M.le M') {t : TypeId} {m k v : AV} {ok : Bool} (h : lookupA P M t m k ok = some v) : lookupA P M' t m k ok = some v := by
  unfold lookupA at h ⊢
  split at h
  · rename_i ti es k' h1 h2
    simp only [entsA_le hle h2, h1]; exact h
  · cases h
theorem lenA_le {P : Program} {M M' : Mem} (hle : M.le M') {t : TypeId} {a v : AV} (h : lenA P M t a = some v) : lenA P M' t a = some v := by
  unfold lenA at h ⊢
  split at h
  · split at h
    · exact h
    · exact h
    · exact h
    · exact h
    · exact h
    · exact h
    · split at h
      · rename_i es hM
        simp only [hle _ _ hM]; exact h
      · cases h
    · cases h
  · cases h
theorem sliceA_le {P : Program} {M M' : Mem} (hle : M.le M') {t : TypeId} {x v : AV} {lo hi mx : Option AV} (h : sliceA P M t x lo hi mx = some v) : sliceA P M' t x lo hi mx = some v := by
  unfold sliceA at h ⊢
  split at h
  · split at h
    · exact h
    · exact h
    · split at h
      · rename_i te l hh h1 h2 h3
        split at h
        · rename_i hb
          rw [if_pos hb]
          split at h
          · rename_i h0
            rw [if_pos h0]; exact h
          · rename_i h0
            rw [if_neg h0]
            split at h
            · rename_i h4
              rw [if_pos h4]; exact h
            · rename_i h4
              rw [if_neg h4]
              split at h
              · rename_i T rows keep hM
                simp only [hle _ _ hM]; exact h
              · cases h
        · cases h
      · cases h
    · exact h
    · cases h
  · cases h
theorem srcRows_le {P : Program} {M M' : Mem} (hle : M.le M') {t tx e : TypeId} {te : TI} {x : AV} {v : List (List Lf)} (h : srcRows P M t tx e te x = some v) : srcRows P M' t tx e te x = some v := by
  unfold srcRows at h ⊢
  split at h
  · rename_i ht
    rw [if_pos ht]
    split at h
    · exact h
    · exact h
    · split at h
      · rename_i T rows keep hM
        simp only [hle _ _ hM]; exact h
      · cases h
    · cases h
  · rename_i ht
    rw [if_neg ht]; exact h
end Go.X
set_option linter.unusedVariables false
set_option linter.unusedSimpArgs false
set_option linter.unusedSectionVars false
set_option maxRecDepth 100000
namespace Go.X
open Go.RowKit

class KonE where
  k : AV → Eff → Prop
/-- A call in a drawn region, with what it does to the memory. -/
def wcallI (P : Program) (f : FuncId) (args : List AV) (M : Mem) (nid : Nat) [c : KonE] : Prop := ∃ v e, (∀ M', M.le M' → M' nid = none → XCallsN (fun F => F nid) P f args M' fun x M'' => x = v ∧ (updE M' e).le M'') ∧ c.k v e
theorem wcallI_of {P : Program} {f : FuncId} {args : List AV} {M : Mem} {nid : Nat} {C : AV → Eff → Prop} {v : AV} (h : ∀ M', M.le M' → XCalls P f args M' fun x M'' => x = v ∧ M'' = M') (hc : C v []) : @wcallI P f args M nid ⟨C⟩ :=
  ⟨v, [], fun M' hle _ => ((h M' hle).mono fun _ _ ⟨a, b⟩ => ⟨a, by rw [b]; exact Mem.le_refl _⟩).n, hc⟩
theorem wcallI_eff {P : Program} {f : FuncId} {args : List AV} {M : Mem} {nid : Nat} {C : AV → Eff → Prop} {v : AV} {e : Eff} (h : ∀ M', M.le M' → XCalls P f args M' fun x M'' => x = v ∧ (updE M' e).le M'') (hc : C v e) : @wcallI P f args M nid ⟨C⟩ :=
  ⟨v, e, fun M' hle _ => (h M' hle).n, hc⟩

def storeE (P : Program) (M : Mem) (t : TypeId) (a v : AV) : Option (Nat × Blk) :=
  match a, avCells v, tiOf P t with
  | .l (.ptr id r c), some vs, some i =>
    match M id with
    | some (.cells T rows keep) =>
      match rows[r]? with
      | some row => if vs.length = i.size ∧ c + vs.length ≤ row.length ∧ keep ≤ r then some (id, .cells T (rows.set r (overw row c vs)) keep) else none
      | none => none
    | _ => none
  | _, _, _ => none
theorem storeE_le {P : Program} {M : Mem} {t : TypeId} {a v : AV} {p : Nat × Blk} (h : storeE P M t a v = some p) {M' : Mem} (hle : M.le M') : storeA P M' t a v = some (M'.set p.1 p.2) := by
  unfold storeE at h
  split at h
  · rename_i id r c vs i h1 h2
    split at h
    · rename_i T rows keep hM
      split at h
      · rename_i row hr
        split at h
        · rename_i hcond
          simp only [Option.some.injEq] at h
          subst h
          unfold storeA
          simp only [h1, h2, hle _ _ hM, hr]
          rw [if_pos hcond]
        · cases h
      · cases h
    · cases h
  · cases h

/-- append to a block of one's own, in a drawn region. -/
def wapp (P : Program) (M : Mem) (nid : Nat) (t tx : TypeId) (s x : AV) (C : AV → Eff → Prop) : Prop :=
  match tiOf P t with
  | some ti => match ti.d with
    | .slice e => match tiOf P e with
      | some te => zeroFits P e = true ∧ optK (srcRows P M t tx e te x) fun src =>
        match s with
        | .l .nils => 0 < te.size ∧ (src = [] → C (.l .nils) []) ∧ (src ≠ [] → src.length * te.bytes ≤ 140737488355328 ∧ src.length ≤ 140737488355328 ∧ C (.l (.ms nid 0 src.length)) [(nid, some (.cells e src 0))])
        | .l (.ms id 0 len) => match M id with
          | some (.cells T rows keep) => 0 < te.size ∧ T = e ∧ len ≤ rows.length ∧ keep ≤ len ∧ (len + src.length) * te.bytes ≤ 140737488355328 ∧ (len + src.length) ≤ 140737488355328 ∧
            C (.l (.ms nid 0 (len + src.length))) [(id, none), (nid, some (.cells e (rows.take len ++ src) keep))]
          | _ => False
        | _ => False
      | none => False
    | _ => False
  | none => False

def wop (P : Program) (op : Op) (fr : Fr) (M : Mem) (nid : Nat) (C : AV → Eff → Prop) : Prop :=
  match op with
  | .alloc T => optK (tiOf P T) fun i => optK (avCells i.zero) fun cs => cs.length = i.size ∧ C (.l (.ptr nid 0 0)) [(nid, some (.cells T [cs] 0))]
  | .box T x => optK (tiOf P T) fun i => optK (avCells (ev fr x)) fun cs => cs.length = i.size ∧ C (.l (.ptr nid 0 0)) [(nid, some (.cells T [cs] 0))]
  | .buildSlice t len parts => optK (buildSliceA P t len (parts.toList.map fun p => (p.1, ev fr p.2))) fun r => C (.l (.ms nid 0 len)) [(nid, some (.cells r.1 r.2 0))]
  | .makeSlice t l c => optK (makeSliceA P t (ev fr l) (ev fr c)) fun r => C (.l (.ms nid 0 r.2.length)) [(nid, some (.cells r.1 r.2 0))]
  | .store t x v => optK (storeE P M t (ev fr x) (ev fr v)) fun p => C .any [(p.1, some p.2)]
  | .call c => match c.callee with
    | .value (.func f) => @wcallI P f (c.args.toList.map (ev fr)) M nid ⟨C⟩
    | .builtin .append => (match c.argTypes.toList, c.args.toList.map (ev fr) with | [t, tx], [s, x] => wapp P M nid t tx s x C | _, _ => False)
    | _ => dop P (.call c) fr M fun v => C v []
  | op => dop P op fr M fun v => C v []

theorem wop_sound {P : Program} {op : Op} {fr : Fr} {M : Mem} {nid : Nat} {C : AV → Eff → Prop} (h : wop P op fr M nid C) :
    ∃ v e, C v e ∧ ∀ M', M.le M' → M' nid = none → vopcG (fun F => F nid) P op fr M' fun x M'' => x = v ∧ (updE M' e).le M'' := by
  have O : ∀ (o : Option AV), optK o (fun v => C v []) → ∃ v e, C v e ∧ e = [] ∧ o = some v := fun o ho => by
    obtain ⟨v, hv, hc⟩ := optK_elim ho
    exact ⟨v, [], hc, rfl, hv⟩
  have fin : ∀ {o : Option AV} {f : Mem → Option AV}, optK o (fun v => C v []) → (∀ v M', o = some v → M.le M' → f M' = some v) → ∃ v e, C v e ∧ ∀ M' : Mem, M.le M' → M' nid = none → optK (f M') fun x => x = v ∧ (updE M' e).le M' := fun ho hf => by
    obtain ⟨v, hv, hc⟩ := optK_elim ho
    exact ⟨v, [], hc, fun M' hle _ => by rw [hf v M' hv hle]; exact ⟨rfl, Mem.le_refl _⟩⟩
  cases op with
  | move x => exact ⟨_, [], h, fun M' _ _ => ⟨rfl, Mem.le_refl _⟩⟩
  | assign x => exact ⟨_, [], h, fun M' _ _ => ⟨rfl, Mem.le_refl _⟩⟩
  | pick c x y =>
    have h : dop P (.pick c x y) fr M fun v => C v [] := h
    simp only [dop] at h
    unfold pickK at h
    split at h
    · rename_i t ht
      refine ⟨_, [], h, fun M' _ _ => ?_⟩
      simp only [vopcG, pickK, ht]
      exact ⟨trivial, Mem.le_refl _⟩
    · exact h.elim
  | alloc T =>
    obtain ⟨i, hi, h⟩ := optK_elim h
    obtain ⟨cs, hcs, hl, h⟩ := optK_elim h
    refine ⟨_, _, h, fun M' _ _ => ?_⟩
    simp only [vopcG, hi, hcs, optK]
    exact ⟨hl, trivial, Mem.le_refl _⟩
  | box T x =>
    obtain ⟨i, hi, h⟩ := optK_elim h
    obtain ⟨cs, hcs, hl, h⟩ := optK_elim h
    refine ⟨_, _, h, fun M' _ _ => ?_⟩
    simp only [vopcG, hi, hcs, optK]
    exact ⟨hl, trivial, Mem.le_refl _⟩
  | build t parts => exact fin h fun v M' hv hle => hv
  | buildSlice t len parts =>
    obtain ⟨r, hr, h⟩ := optK_elim h
    refine ⟨_, _, h, fun M' _ _ => ?_⟩
    simp only [vopcG, hr, optK]
    exact ⟨trivial, Mem.le_refl _⟩
  | makeSlice t l c =>
    obtain ⟨r, hr, h⟩ := optK_elim h
    refine ⟨_, _, h, fun M' _ _ => ?_⟩
    simp only [vopcG, hr, optK]
    exact ⟨trivial, Mem.le_refl _⟩
  | load t x => exact fin (f := fun M' => loadA P M' t (ev fr x)) h fun v M' hv hle => loadA_le hle hv
  | store t x v =>
    obtain ⟨p, hp, h⟩ := optK_elim h
    refine ⟨_, _, h, fun M' hle _ => ?_⟩
    simp only [vopcG, storeE_le hp hle, optK]
    exact ⟨trivial, Mem.le_refl _⟩
  | nilCheck x => exact fin h fun v M' hv hle => hv
  | binOp op t x y u =>
    obtain ⟨v, hv, hb⟩ := binK_det h.1 h.2
    refine ⟨v, [], hv, fun M' _ _ => ?_⟩
    simp only [vopcG]
    have : (fun x => x = v) = fun x => x = v ∧ (updE M' []).le M' := by funext x; simp [updE, Mem.le_refl]
    rw [← this]; exact hb
  | unOp op t x => exact fin h fun v M' hv hle => hv
  | convert s d x => exact fin (f := fun M' => convM P M' s d (ev fr x)) h fun v M' hv hle => convM_of hv
  | slice t x lo hi mx => exact fin (f := fun M' => sliceA P M' t (ev fr x) (lo.map (ev fr)) (hi.map (ev fr)) (mx.map (ev fr))) h fun v M' hv hle => sliceA_le hle hv
  | fieldAddr s x f => exact fin h fun v M' hv hle => hv
  | field t x f => exact fin h fun v M' hv hle => hv
  | indexAddr t x i => exact fin (f := fun M' => indexAddrA P M' t (ev fr x) (ev fr i)) h fun v M' hv hle => indexAddrA_le hle hv
  | index t x i => exact fin h fun v M' hv hle => hv
  | lookup t m k ok => exact fin (f := fun M' => lookupA P M' t (ev fr m) (ev fr k) ok) h fun v M' hv hle => lookupA_le hle hv
  | extract x i => exact fin h fun v M' hv hle => hv
  | call c =>
    simp only [wop] at h
    split at h
    · rename_i f hc
      obtain ⟨v, e, hx, hcv⟩ := h
      refine ⟨v, e, hcv, fun M' hle hn => ?_⟩
      simp only [vopcG]
      unfold callG
      rw [hc]
      exact hx M' hle hn
    · rename_i hc
      split at h
      · rename_i t tx s x h1 h2
        unfold wapp at h
        split at h
        · rename_i ti hti
          split at h
          · rename_i e hd
            split at h
            · rename_i te hte
              obtain ⟨hz, h⟩ := h
              obtain ⟨src, hsrc, h⟩ := optK_elim h
              split at h
              · obtain ⟨a1, a2, a3⟩ := h
                have hap : ∀ (N : (Nat → Prop) → Prop) (M : Mem) (K : AV → Mem → Prop), appendA N P M t tx (.l .nils) x K = appendG N P M t tx (.l .nils) x K := fun N M0 K => by
                  unfold appendA
                  split
                  · rename_i n _ _
                    exfalso
                    unfold srcRows at hsrc
                    split at hsrc
                    · cases hsrc
                    · split at hsrc
                      · rename_i hx; cases hx
                      · cases hsrc
                  · rfl
                by_cases hs0 : src = []
                · refine ⟨_, _, a2 hs0, fun M' hle _ => ?_⟩
                  simp only [vopcG]
                  unfold callG
                  rw [hc]
                  simp only [h1, h2, builtG]
                  rw [hap]
                  unfold appendG
                  simp only [hti, hd, hte, srcRows_le hle hsrc, optK]
                  exact ⟨hz, a1, fun _ => ⟨trivial, Mem.le_refl _⟩, fun h => absurd hs0 h⟩
                · obtain ⟨b1, b2, h⟩ := a3 hs0
                  refine ⟨_, _, h, fun M' hle _ => ?_⟩
                  simp only [vopcG]
                  unfold callG
                  rw [hc]
                  simp only [h1, h2, builtG]
                  rw [hap]
                  unfold appendG
                  simp only [hti, hd, hte, srcRows_le hle hsrc, optK]
                  exact ⟨hz, a1, fun h => absurd h hs0, fun _ => ⟨b1, b2, trivial, Mem.le_refl _⟩⟩
              · rename_i id len
                split at h
                · rename_i T rows keep hM
                  obtain ⟨a1, a2, a3, a4, a5, a6, h⟩ := h
                  refine ⟨_, _, h, fun M' hle _ => ?_⟩
                  simp only [vopcG]
                  unfold callG
                  rw [hc]
                  simp only [h1, h2, builtG]
                  rw [appendA_ms]
                  unfold appendG
                  simp only [hti, hd, hte, srcRows_le hle hsrc, optK, hle _ _ hM]
                  exact ⟨hz, a1, a2, a3, a4, a5, a6, trivial, Mem.le_refl _⟩
                · exact h.elim
              · exact h.elim
            · exact h.elim
          · exact h.elim
        · exact h.elim
      · exact h.elim
    · rename_i n1 n2
      simp only [dop] at h
      split at h
      · rename_i f hc; exact absurd hc (n1 f)
      · rename_i hc
        split at h
        · rename_i t x h1 h2
          obtain ⟨v, hv, hcv⟩ := optK_elim h
          refine ⟨v, [], hcv, fun M' hle _ => ?_⟩
          simp only [vopcG]
          unfold callG
          rw [hc]
          simp only [h1, h2, builtG, lenA_le hle hv, optK]
          exact ⟨trivial, Mem.le_refl _⟩
        · exact h.elim
      · rename_i hc
        split at h
        · rename_i t1 t2 k x k' y h1 h2
          refine ⟨_, [], h, fun M' hle _ => ?_⟩
          simp only [vopcG]
          unfold callG
          rw [hc]
          simp only [h1, h2, builtG]
          exact ⟨trivial, Mem.le_refl _⟩
        · exact h.elim
      · rename_i hc
        split at h
        · rename_i t1 t2 k x k' y h1 h2
          refine ⟨_, [], h, fun M' hle _ => ?_⟩
          simp only [vopcG]
          unfold callG
          rw [hc]
          simp only [h1, h2, builtG]
          exact ⟨trivial, Mem.le_refl _⟩
        · exact h.elim
      · exact h.elim
  | _ => exact h.elim
end Go.X
set_option linter.unusedVariables false
set_option linter.unusedSimpArgs false
set_option linter.unusedSectionVars false
set_option maxRecDepth 100000
namespace Go.X
open Go.RowKit

/-- The ids that an operation writes (beside the new one). -/
def tL : List (Nat × Nat) → Nat → List Nat
  | [], _ => []
  | (j, id) :: r, i => if j = i then id :: tL r i else tL r i
def tIn : List (Nat × Nat) → Nat → Nat → Prop
  | [], _, _ => False
  | (j, x) :: r, i, id => (j = i ∧ x = id) ∨ tIn r i id
theorem tIn_mem {T : List (Nat × Nat)} {i id : Nat} (h : tIn T i id) : id ∈ tL T i := by
  induction T with
  | nil => exact h.elim
  | cons p T ih =>
    obtain ⟨a, b⟩ := p
    rw [tL]
    rcases h with ⟨rfl, rfl⟩ | h
    · rw [if_pos rfl]; exact List.mem_cons_self
    · split
      · exact List.mem_cons_of_mem _ (ih h)
      · exact ih h
/-- What may not be looked at by operation i. -/
def dOf : List (List Nat) → Nat → List Nat
  | [], _ => []
  | l :: _, 0 => l
  | _ :: r, i + 1 => dOf r i
theorem dOf_n (i : Nat) : dOf [] i = [] := by cases i <;> rfl
theorem dOf_0 (l : List Nat) (r : List (List Nat)) : dOf (l :: r) 0 = l := rfl
theorem dOf_s (l : List Nat) (r : List (List Nat)) (i : Nat) : dOf (l :: r) (i + 1) = dOf r i := rfl
def idsOf (T : List (Nat × Nat)) (n0 : Nat) : List Nat → List Nat
  | [] => []
  | j :: r => tL T j ++ (n0 + j) :: idsOf T n0 r

theorem idsOf_t {T : List (Nat × Nat)} {n0 : Nat} {l : List Nat} {j id : Nat} (hj : j ∈ l) (h : tIn T j id) : id ∈ idsOf T n0 l := by
  induction l with
  | nil => simp at hj
  | cons k l ih =>
    simp only [idsOf, List.mem_append, List.mem_cons]
    rcases List.mem_cons.1 hj with rfl | hj
    · exact .inl (tIn_mem h)
    · exact .inr (.inr (ih hj))
theorem idsOf_a {T : List (Nat × Nat)} {n0 : Nat} {l : List Nat} {j : Nat} (hj : j ∈ l) : n0 + j ∈ idsOf T n0 l := by
  induction l with
  | nil => simp at hj
  | cons k l ih =>
    simp only [idsOf, List.mem_append, List.mem_cons]
    rcases List.mem_cons.1 hj with rfl | hj
    · exact .inr (.inl rfl)
    · exact .inr (.inr (ih hj))

/-- The kernel's check: TI the operations that write an id, AI those that make a new one, D what each may not look at. -/
def wOk (ops : List Oper) (TI AI : List Nat) (D : List (List Nat)) : Bool :=
  let A := ancM ops
  let an := fun i j => (A.getD i 0).testBit j
  (List.range ops.length).all (fun i =>
    (TI.all fun j => j == i || (decide (j < i) && an i j) || (decide (i < j) && an j i) || (dOf D i).contains j) &&
    (AI.all fun j => !decide (j < i) || an i j || (dOf D i).contains j)) &&
  (TI.all fun j => TI.all fun j' => !decide (j < j') || an j' j) &&
  (AI.all fun k => TI.all fun j => !decide (k < j) || an j k || (dOf D j).contains k)

structure WSpec (ops : List Oper) (TI AI : List Nat) (D : List (List Nat)) : Prop where
  t : ∀ i, i < ops.length → ∀ j ∈ TI, j = i ∨ (j < i ∧ anc ops i j = true) ∨ (i < j ∧ anc ops j i = true) ∨ j ∈ dOf D i
  a : ∀ i, i < ops.length → ∀ j ∈ AI, j < i → anc ops i j = true ∨ j ∈ dOf D i
  tt : ∀ j ∈ TI, ∀ j' ∈ TI, j < j' → anc ops j' j = true
  at' : ∀ k ∈ AI, ∀ j ∈ TI, k < j → anc ops j k = true ∨ k ∈ dOf D j

theorem wOk_get {ops : List Oper} {TI AI : List Nat} {D : List (List Nat)} (h : wOk ops TI AI D = true) : WSpec ops TI AI D := by
  simp only [wOk, Bool.and_eq_true, List.all_eq_true, List.mem_range, Bool.or_eq_true, decide_eq_true_eq, beq_iff_eq, Bool.not_eq_true', decide_eq_false_iff_not, List.contains_iff_mem] at h
  obtain ⟨⟨h1, h2⟩, h3⟩ := h
  refine ⟨fun i hi j hj => ?_, fun i hi j hj hji => ?_, fun j hj j' hj' hlt => ?_, fun k hk j hj hlt => ?_⟩
  · rcases (h1 i hi).1 j hj with ((h | h) | h) | h
    · exact .inl h
    · exact .inr (.inl h)
    · exact .inr (.inr (.inl h))
    · exact .inr (.inr (.inr h))
  · rcases (h1 i hi).2 j hj with (h | h) | h
    · exact absurd hji h
    · exact .inl h
    · exact .inr h
  · rcases h2 j hj j' hj' with h | h
    · exact absurd hlt h
    · exact h
  · rcases h3 k hk j hj with (h | h) | h
    · exact absurd hlt h
    · exact .inl h
    · exact .inr h

/-- An operation's effect is on what it may write. -/
def tch (T : List (Nat × Nat)) (AI : List Nat) (n0 i : Nat) : Eff → Prop
  | [] => True
  | (id, _) :: e => ((id = n0 + i ∧ i ∈ AI) ∨ tIn T i id) ∧ tch T AI n0 i e
theorem tch_mem {T : List (Nat × Nat)} {AI : List Nat} {n0 i : Nat} {e : Eff} (h : tch T AI n0 i e) : ∀ p ∈ e, (p.1 = n0 + i ∧ i ∈ AI) ∨ tIn T i p.1 := by
  induction e with
  | nil => intro p hp; simp at hp
  | cons q e ih =>
    intro p hp
    rcases List.mem_cons.1 hp with rfl | hp
    · exact h.1
    · exact ih h.2 p hp

def vdw (P : Program) (ops : List Oper) (T : List (Nat × Nat)) (AI : List Nat) (D : List (List Nat)) (n0 : Nat) : List Oper → Nat → (Fr → Mem → Prop) → Fr → Mem → Prop
  | [], _, K, fr, M => K fr M
  | o :: rest, i, K, fr, M =>
    match o.guard with
    | none => wop P o.op fr (delL M (idsOf T n0 (dOf D i))) (n0 + i) fun v e => tch T AI n0 i e ∧ vdw P ops T AI D n0 rest (i + 1) K (updO fr o.dst v) (updE M e)
    | some (j, u) => match gslot ops j with
      | some d => gK (fr d) u (wop P o.op fr (delL M (idsOf T n0 (dOf D i))) (n0 + i) fun v e => tch T AI n0 i e ∧ vdw P ops T AI D n0 rest (i + 1) K (updO fr o.dst v) (updE M e)) (vdw P ops T AI D n0 rest (i + 1) K (updO fr o.dst (.tup [])) M)
      | none => False

/-- The memory, when the operations of L among the first k are done. -/
def memL (M : Mem) (E : Nat → Eff) (L : Nat → Bool) : Nat → Mem
  | 0 => M
  | k + 1 => if L k then updE (memL M E L k) (E k) else memL M E L k
def memT (M : Mem) (E : Nat → Eff) : Nat → Mem
  | 0 => M
  | k + 1 => updE (memT M E k) (E k)
def Touch (E : Nat → Eff) (j id : Nat) : Prop := ∃ p ∈ E j, p.1 = id

theorem memL_agree {M : Mem} {E : Nat → Eff} {L L' : Nat → Bool} {id : Nat} : ∀ k, (∀ j, j < k → Touch E j id → L j = L' j) → memL M E L k id = memL M E L' k id := by
  intro k
  induction k with
  | zero => intro _; rfl
  | succ k ih =>
    intro h
    have ih := ih fun j hj => h j (by omega)
    unfold memL
    by_cases ht : Touch E k id
    · rw [h k (by omega) ht]
      split
      · exact updE_congr ih
      · exact ih
    · have hn : ∀ p ∈ E k, p.1 ≠ id := fun p hp he => ht ⟨p, hp, he⟩
      split <;> split
      · rw [updE_other hn, updE_other hn, ih]
      · rw [updE_other hn, ih]
      · rw [updE_other hn, ih]
      · exact ih
theorem memL_T {M : Mem} {E : Nat → Eff} {L : Nat → Bool} {id i : Nat} : ∀ k, (∀ j, j < k → Touch E j id → L j = decide (j < i)) → memL M E L k id = memT M E (min k i) id := by
  intro k
  induction k with
  | zero => intro _; simp [memL, memT]
  | succ k ih =>
    intro h
    have ih := ih fun j hj => h j (by omega)
    unfold memL
    by_cases hki : k < i
    · rw [show min (k + 1) i = min k i + 1 by omega, memT]
      rw [show min k i = k by omega] at ih ⊢
      by_cases ht : Touch E k id
      · rw [h k (by omega) ht, if_pos (by simp [hki])]
        exact updE_congr ih
      · have hn : ∀ p ∈ E k, p.1 ≠ id := fun p hp he => ht ⟨p, hp, he⟩
        rw [updE_other hn]
        split
        · rw [updE_other hn, ih]
        · exact ih
    · rw [show min (k + 1) i = min k i by omega]
      by_cases ht : Touch E k id
      · rw [h k (by omega) ht, if_neg (by simp [hki])]
        exact ih
      · have hn : ∀ p ∈ E k, p.1 ≠ id := fun p hp he => ht ⟨p, hp, he⟩
        split
        · rw [updE_other hn, ih]
        · exact ih
theorem memL_after {M : Mem} {E : Nat → Eff} {L : Nat → Bool} {id i : Nat} : ∀ k, i ≤ k → (∀ j, i ≤ j → j < k → Touch E j id → L j = false) → memL M E L k id = memL M E L i id := by
  intro k
  induction k with
  | zero => intro h _; rw [Nat.le_zero.1 h]
  | succ k ih =>
    intro hik h
    by_cases he : i = k + 1
    · rw [he]
    · have ih := ih (by omega) fun j h1 h2 => h j h1 (by omega)
      rw [← ih, memL]
      by_cases ht : Touch E k id
      · rw [if_neg (by rw [h k (by omega) (by omega) ht]; simp)]
      · have hn : ∀ p ∈ E k, p.1 ≠ id := fun p hp he => ht ⟨p, hp, he⟩
        split
        · rw [updE_other hn]
        · rfl
theorem memL_all {M : Mem} {E : Nat → Eff} {L : Nat → Bool} : ∀ k, (∀ j, j < k → L j = true) → memL M E L k = memT M E k := by
  intro k
  induction k with
  | zero => intro _; rfl
  | succ k ih =>
    intro h
    unfold memL memT
    rw [if_pos (h k (by omega)), ih fun j hj => h j (by omega)]
theorem memL_none {M : Mem} {E : Nat → Eff} {L : Nat → Bool} : ∀ k, (∀ j, j < k → L j = false) → memL M E L k = M := by
  intro k
  induction k with
  | zero => intro _; rfl
  | succ k ih =>
    intro h
    unfold memL
    rw [if_neg (by rw [h k (by omega)]; simp), ih fun j hj => h j (by omega)]
theorem memT_congr {M : Mem} {E E' : Nat → Eff} : ∀ k, (∀ j, j < k → E j = E' j) → memT M E k = memT M E' k := by
  intro k
  induction k with
  | zero => intro h; rfl
  | succ k ih =>
    intro h
    unfold memT
    rw [h k (by omega), ih fun j hj => h j (by omega)]

section
variable {P : Program} {ops : List Oper} {T : List (Nat × Nat)} {AI : List Nat} {D : List (List Nat)} {n0 : Nat} {fr : Fr} {M : Mem}

structure WStep (P : Program) (ops : List Oper) (T : List (Nat × Nat)) (AI : List Nat) (D : List (List Nat)) (n0 : Nat) (fr : Fr) (M : Mem) (v : Nat → AV) (E : Nat → Eff) (i : Nat) (o : Oper) : Prop where
  tch : tch T AI n0 i (E i)
  run : ∃ b, Runs ops o (frT ops v fr i) b ∧ (b = false → v i = .tup [] ∧ E i = []) ∧
    (b = true → ∀ M', (delL (memT M E i) (idsOf T n0 (dOf D i))).le M' → M' (n0 + i) = none → vopcG (fun F => F (n0 + i)) P o.op (frT ops v fr i) M' fun x M'' => x = v i ∧ (updE M' (E i)).le M'')

theorem vdw_steps {K : Fr → Mem → Prop} (rest : List Oper) : ∀ (k : Nat) (v : Nat → AV) (E : Nat → Eff), k ≤ ops.length → ops.drop k = rest →
    (∀ i o, i < k → ops[i]? = some o → WStep P ops T AI D n0 fr M v E i o) → vdw P ops T AI D n0 rest k K (frT ops v fr k) (memT M E k) →
    ∃ v E, (∀ i o, ops[i]? = some o → WStep P ops T AI D n0 fr M v E i o) ∧ K (frT ops v fr ops.length) (memT M E ops.length) := by
  induction rest with
  | nil =>
    intro k v E hkl hd hf h
    have hk : ops.length ≤ k := by
      have := congrArg List.length hd
      simp at this
      omega
    have hkl : k = ops.length := by omega
    subst hkl
    exact ⟨v, E, fun i o ho => hf i o (List.getElem?_eq_some_iff.1 ho).1 ho, h⟩
  | cons o rest ih =>
    intro k v E hkl hd hf h
    have hok : ops[k]? = some o := by
      have := congrArg List.head? hd
      rw [List.head?_drop] at this
      simpa using this
    have hdst : dstOf ops k = o.dst := by simp [dstOf, hok]
    have next : ∀ (u : AV) (e : Eff) (b : Bool), Runs ops o (frT ops v fr k) b → (b = false → u = .tup [] ∧ e = []) → tch T AI n0 k e →
        (b = true → ∀ M', (delL (memT M E k) (idsOf T n0 (dOf D k))).le M' → M' (n0 + k) = none → vopcG (fun F => F (n0 + k)) P o.op (frT ops v fr k) M' fun x M'' => x = u ∧ (updE M' e).le M'') →
        vdw P ops T AI D n0 rest (k + 1) K (updO (frT ops v fr k) o.dst u) (updE (memT M E k) e) →
        ∃ v E, (∀ i o, ops[i]? = some o → WStep P ops T AI D n0 fr M v E i o) ∧ K (frT ops v fr ops.length) (memT M E ops.length) := by
      intro u e b hr hb ht hv hk
      have hcong : ∀ i, i ≤ k → frT ops (fun j => if j = k then u else v j) fr i = frT ops v fr i := fun i hi => frT_congr i fun j hj => by
        have : j ≠ k := by omega
        simp [this]
      have hcongM : ∀ i, i ≤ k → memT M (fun j => if j = k then e else E j) i = memT M E i := fun i hi => memT_congr i fun j hj => by
        have : j ≠ k := by omega
        simp [this]
      refine ih (k + 1) (fun j => if j = k then u else v j) (fun j => if j = k then e else E j) (by have := (List.getElem?_eq_some_iff.1 hok).1; omega) (by rw [← List.drop_drop, hd]; rfl) (fun i o' hi ho' => ?_) ?_
      · by_cases hik : i = k
        · subst hik
          rw [hok, Option.some.injEq] at ho'
          subst ho'
          refine ⟨by simpa using ht, b, by rw [hcong i (by omega)]; exact hr, fun h => by simpa using hb h, fun h M' hle hn => ?_⟩
          rw [hcongM i (by omega)] at hle
          rw [hcong i (by omega)]
          simpa using hv h M' hle hn
        · have hs := hf i o' (by omega) ho'
          obtain ⟨b', h1, h2, h3⟩ := hs.run
          refine ⟨by simpa [hik] using hs.tch, b', by rw [hcong i (by omega)]; exact h1, fun h => by simpa [hik] using h2 h, fun h M' hle hn => ?_⟩
          rw [hcongM i (by omega)] at hle
          rw [hcong i (by omega)]
          simpa [hik] using h3 h M' hle hn
      · rw [frT, memT, hcong k (Nat.le_refl _), hcongM k (Nat.le_refl _), hdst]
        simpa using hk
    simp only [vdw] at h
    split at h
    · rename_i hg
      obtain ⟨u, e, ⟨ht, hc⟩, hv⟩ := wop_sound h
      exact next u e true (by simp [Runs, hg]) (by simp) ht (fun _ => hv) hc
    · rename_i j u hg
      split at h
      · rename_i d hgs
        unfold gK at h
        split at h
        · rename_i c hfd
          by_cases hcu : c = u
          · subst hcu
            obtain ⟨x, e, ⟨ht, hc⟩, hv⟩ := wop_sound (h.1 rfl)
            exact next x e true (by rw [Runs, hg]; exact ⟨d, hgs, .inl ⟨c, hfd, by simp⟩⟩) (by simp) ht (fun _ => hv) hc
          · have hcu' : c = !u := by revert hcu; cases c <;> cases u <;> simp
            exact next (.tup []) [] false (by rw [Runs, hg]; exact ⟨d, hgs, .inl ⟨c, hfd, by simp [hcu]⟩⟩) (fun _ => ⟨rfl, rfl⟩) trivial (by simp) (h.2 hcu')
        · rename_i hfd
          exact next (.tup []) [] false (by rw [Runs, hg]; exact ⟨d, hgs, .inr ⟨hfd, rfl⟩⟩) (fun _ => ⟨rfl, rfl⟩) trivial (by simp) h
        · exact h.elim
      · exact h.elim

/-- The ids that are written are old ones, or new ones of earlier operations. -/
def TOk (T : List (Nat × Nat)) (AI : List Nat) (D : List (List Nat)) (n0 : Nat) : Prop := ∀ j id, tIn T j id → id < n0 ∨ ∃ k, k ∈ AI ∧ (k < j ∧ k ∉ dOf D j) ∧ id = n0 + k

theorem tOf_mem {T : List (Nat × Nat)} {j id : Nat} (h : tIn T j id) : j ∈ T.map (·.1) := by
  induction T with
  | nil => exact h.elim
  | cons p T ih =>
    obtain ⟨a, b⟩ := p
    rcases h with ⟨rfl, _⟩ | h
    · simp
    · simp only [List.map_cons, List.mem_cons]; exact .inr (ih h)

theorem w_plan (hd : drawOk ops = true) (hw : wOk ops (T.map (·.1)) AI D = true) (hT : TOk T AI D n0) (hM : ∀ j, n0 ≤ j → M j = none) {v : Nat → AV} {E : Nat → Eff}
    (hs : ∀ i o, ops[i]? = some o → WStep P ops T AI D n0 fr M v E i o) : Plan P ops fr n0 v (fun L => memL M E L ops.length) := by
  have W := wOk_get hw
  have touch : ∀ j, j < ops.length → ∀ id, Touch E j id → (id = n0 + j ∧ j ∈ AI) ∨ (tIn T j id ∧ j ∈ T.map (·.1)) := by
    rintro j hj id ⟨p, hp, rfl⟩
    rcases tch_mem (hs j _ (List.getElem?_eq_getElem hj)).tch p hp with h | h
    · exact .inl h
    · exact .inr ⟨h, tOf_mem h⟩
  have small : ∀ j id, tIn T j id → id < n0 + j := fun j id h => by
    rcases hT j id h with h | ⟨k, _, ⟨hk, _⟩, rfl⟩ <;> omega
  refine ⟨fun i o ho => ?_⟩
  have hi := (List.getElem?_eq_some_iff.1 ho).1
  obtain ⟨htch, b, hr, hb, hv⟩ := hs i o ho
  refine ⟨b, hr, fun h => (hb h).1, fun L hc hL hp => ?_⟩
  have up : ∀ j, j < ops.length → anc ops j i = true → L j = false := fun j hj ha => by
    refine Bool.eq_false_iff.2 fun hLj => ?_
    have hjo : ops[j]? = some ops[j] := List.getElem?_eq_getElem hj
    have := anc_sound hc hjo (hc j _ hjo hLj) ha
    rw [hL] at this; cases this
  -- (A)
  have hA : (delL (memT M E i) (idsOf T n0 (dOf D i))).le (memL M E L ops.length) := by
    intro id bk hbk
    obtain ⟨hnd, hbk⟩ := delL_some hbk
    have := memL_T (M := M) (E := E) (L := L) (id := id) (i := i) ops.length fun j hj ht => by
      rcases touch j hj id ht with ⟨rfl, hja⟩ | ⟨hjt, hjT⟩
      · by_cases hji : j < i
        · rcases W.a i hi j hja hji with h | h
          · rw [anc_sound hc ho hp h]; simp [hji]
          · exact absurd (idsOf_a h) hnd
        · by_cases hje : j = i
          · subst hje; rw [hL]; simp
          · -- it is not there yet
            have hno : memT M E i (n0 + j) = none := by
              have h0 : ∀ k, k ≤ i → memT M E k (n0 + j) = none := by
                intro k
                induction k with
                | zero => intro _; exact hM _ (by omega)
                | succ k ih =>
                  intro hk
                  rw [memT, updE_other, ih (by omega)]
                  intro p hp2 he
                  rcases touch k (by omega) (n0 + j) ⟨p, hp2, he⟩ with ⟨h, _⟩ | ⟨h, _⟩
                  · omega
                  · have := small k _ h; omega
              exact h0 i (Nat.le_refl _)
            rw [hno] at hbk
            cases hbk
      · rcases W.t i hi j hjT with rfl | ⟨h1, h2⟩ | ⟨h1, h2⟩ | h
        · rw [hL]; simp
        · rw [anc_sound hc ho hp h2]; simp [h1]
        · rw [up j hj h2]
          have : ¬ j < i := by omega
          simp [this]
        · exact absurd (idsOf_t h hjt) hnd
    rw [this, Nat.min_eq_right (by omega)]
    exact hbk
  -- what comes after i in L doesn't touch what i touches
  have later : ∀ id, Touch E i id → ∀ j, i < j → j < ops.length → Touch E j id → L j = false := by
    intro id hti j hij hj htj
    rcases touch j hj id htj with ⟨rfl, hja⟩ | ⟨hjt, hjT⟩
    · rcases touch i hi _ hti with ⟨h, _⟩ | ⟨h, _⟩
      · omega
      · have := small i _ h; omega
    · rcases touch i hi id hti with ⟨rfl, hia⟩ | ⟨_, hiT⟩
      · rcases W.at' i hia j hjT hij with h | h
        · exact up j hj h
        · rcases hT j _ hjt with h2 | ⟨k, _, ⟨_, h3⟩, h4⟩
          · omega
          · have : k = i := by omega
            subst this
            exact absurd h h3
      · exact up j hj (W.tt i hiT j hjT hij)
  -- (B)
  have hB : ∀ id, memL M E (ins L i) ops.length id = updE (memL M E L ops.length) (E i) id := by
    intro id
    by_cases ht : Touch E i id
    · have e1 := memL_after (M := M) (E := E) (L := ins L i) (id := id) (i := i + 1) ops.length (by omega) fun j h1 h2 h3 => by
        simp only [ins, Bool.or_eq_false_iff, decide_eq_false_iff_not]
        exact ⟨by omega, later id ht j (by omega) h2 h3⟩
      have e2 := memL_after (M := M) (E := E) (L := L) (id := id) (i := i) ops.length (by omega) fun j h1 h2 h3 => by
        by_cases hji : j = i
        · subst hji; exact hL
        · exact later id ht j (by omega) h2 h3
      have e3 := memL_agree (M := M) (E := E) (L := ins L i) (L' := L) (id := id) i fun j hj _ => by
        have : j ≠ i := by omega
        simp [ins, this]
      rw [e1, memL, if_pos (by simp [ins])]
      exact updE_congr (by rw [e2, e3])
    · have hn : ∀ p ∈ E i, p.1 ≠ id := fun p hp he => ht ⟨p, hp, he⟩
      rw [updE_other hn]
      refine memL_agree ops.length fun j hj htj => ?_
      have : j ≠ i := fun e => ht (e ▸ htj)
      simp [ins, this]
  -- (C)
  have hC : i ∈ AI ∨ i ∉ AI → memL M E L ops.length (n0 + i) = none := by
    intro hia
    have e1 : memL M E L ops.length (n0 + i) = memL M E (fun _ => false) ops.length (n0 + i) := memL_agree ops.length fun j hj htj => by
      rcases touch j hj _ htj with ⟨h, _⟩ | ⟨h, hjT⟩
      · have : j = i := by omega
        subst this; exact hL
      · rcases hT j _ h with h | ⟨k, hk, ⟨hkj, hnd⟩, h⟩
        · omega
        · have : k = i := by omega
          subst this
          rcases W.at' k hk j hjT hkj with h' | h'
          · exact up j hj h'
          · exact absurd h' hnd
    rw [e1, memL_none ops.length fun _ _ => rfl]
    exact hM _ (by omega)
  have hCC := hC (Classical.em _)
  refine ⟨fun h => ⟨hCC, ?_⟩, fun h => ?_⟩
  · have := hv h _ hA hCC
    have heq : memL M E (ins L i) ops.length = updE (memL M E L ops.length) (E i) := funext hB
    rw [heq]
    exact this
  · have heq : memL M E (ins L i) ops.length = updE (memL M E L ops.length) (E i) := funext hB
    rw [heq, (hb h).2]
    exact Mem.le_refl _

/-- A drawn region that writes. -/
theorem xwrite {n id : Nat} {K : Fr → Mem → Prop} (T : Nat → List (Nat × Nat)) (TI AI : List Nat) (D : List (List Nat)) (hmix : P.follows .mixedOrders = true) (hok : opsOk n ops = true) (hd : drawOk ops = true) (hw : wOk ops TI AI D = true)
    (h : ∀ n0, (∀ j, n0 ≤ j → M j = none) → (T n0).map (·.1) = TI ∧ TOk (T n0) AI D n0 ∧ vdw P ops (T n0) AI D n0 ops 0 K fr M) : @drawI P n id ops.toArray fr M ⟨K⟩ :=
  drawI_of (xdraw hmix hok hd fun n0 hn0 => by
    obtain ⟨h1, h2, h3⟩ := h n0 hn0
    obtain ⟨v, E, hs, hk⟩ := vdw_steps (P := P) (ops := ops) (T := T n0) (AI := AI) (D := D) (n0 := n0) (fr := fr) (M := M) ops 0 (fun _ => .any) (fun _ => []) (Nat.zero_le _) rfl (fun i o hi => by omega) h3
    exact ⟨v, fun L => memL M E L ops.length, memT M E ops.length, w_plan hd (by rw [h1]; exact hw) h2 hn0 hs, fun L hL => by show (memL M E L ops.length).le M; rw [memL_none ops.length fun j _ => hL j]; exact Mem.le_refl _,
      fun L hL => by show (memT M E ops.length).le (memL M E L ops.length); rw [memL_all ops.length hL]; exact Mem.le_refl _, hk⟩)
end

/-! ### the walk's equations -/
section
variable (P : Program) (fr : Fr) (M : Mem) (nid : Nat) (C : AV → Eff → Prop)
theorem vdw_nil (ops : List Oper) (T : List (Nat × Nat)) (AI : List Nat) (D : List (List Nat)) (n0 i : Nat) (K : Fr → Mem → Prop) : vdw P ops T AI D n0 [] i K fr M = K fr M := rfl
theorem vdw_plain (ops : List Oper) (T : List (Nat × Nat)) (AI : List Nat) (D : List (List Nat)) (n0 i : Nat) (dst : Option Tmp) (op : Op) (type : TypeId) (pos : String) (after : Array Edge) (rest : List Oper) (K : Fr → Mem → Prop) :
    vdw P ops T AI D n0 (⟨dst, op, type, pos, after, none⟩ :: rest) i K fr M = wop P op fr (delL M (idsOf T n0 (dOf D i))) (n0 + i) fun v e => tch T AI n0 i e ∧ vdw P ops T AI D n0 rest (i + 1) K (updO fr dst v) (updE M e) := rfl
theorem vdw_guard (ops : List Oper) (T : List (Nat × Nat)) (AI : List Nat) (D : List (List Nat)) (n0 i : Nat) (dst : Option Tmp) (op : Op) (type : TypeId) (pos : String) (after : Array Edge) (j : Nat) (u : Bool) (rest : List Oper) (K : Fr → Mem → Prop) :
    vdw P ops T AI D n0 (⟨dst, op, type, pos, after, some (j, u)⟩ :: rest) i K fr M = @optI _ (gslot ops j) ⟨fun d => @gI (fr d) u ⟨wop P op fr (delL M (idsOf T n0 (dOf D i))) (n0 + i) fun v e => tch T AI n0 i e ∧ vdw P ops T AI D n0 rest (i + 1) K (updO fr dst v) (updE M e)⟩ ⟨vdw P ops T AI D n0 rest (i + 1) K (updO fr dst (.tup [])) M⟩⟩ := by
  unfold optI optK
  simp only [vdw]
  cases gslot ops j <;> rfl
theorem wo_move (x : Operand) : wop P (.move x) fr M nid C = @valI (ev fr x) ⟨fun v => C v []⟩ := rfl
theorem wo_assign (x : Operand) : wop P (.assign x) fr M nid C = @valI (ev fr x) ⟨fun v => C v []⟩ := rfl
theorem wo_pick (c a b : Operand) : wop P (.pick c a b) fr M nid C = @pickI (ev fr c) (ev fr a) (ev fr b) ⟨fun v => C v []⟩ := rfl
theorem wo_alloc (T : TypeId) : wop P (.alloc T) fr M nid C = @optI _ (tiOf P T) ⟨fun i => @optI _ (avCells i.zero) ⟨fun cs => cs.length = i.size ∧ C (.l (.ptr nid 0 0)) [(nid, some (.cells T [cs] 0))]⟩⟩ := rfl
theorem wo_box (T : TypeId) (x : Operand) : wop P (.box T x) fr M nid C = @optI _ (tiOf P T) ⟨fun i => @optI _ (avCells (ev fr x)) ⟨fun cs => cs.length = i.size ∧ C (.l (.ptr nid 0 0)) [(nid, some (.cells T [cs] 0))]⟩⟩ := rfl
theorem wo_build (t : TypeId) (l : List (Nat × Operand)) : wop P (.build t l.toArray) fr M nid C = @optI _ (buildA P t (l.map fun p => (p.1, ev fr p.2))) ⟨fun v => C v []⟩ := rfl
theorem wo_buildSlice (t : TypeId) (len : Nat) (l : List (Nat × Operand)) : wop P (.buildSlice t len l.toArray) fr M nid C = @optI _ (buildSliceA P t len (l.map fun p => (p.1, ev fr p.2))) ⟨fun r => C (.l (.ms nid 0 len)) [(nid, some (.cells r.1 r.2 0))]⟩ := rfl
theorem wo_load (t : TypeId) (x : Operand) : wop P (.load t x) fr M nid C = @optI _ (loadA P M t (ev fr x)) ⟨fun v => C v []⟩ := rfl
theorem wo_store (t : TypeId) (x v : Operand) : wop P (.store t x v) fr M nid C = @optI _ (storeE P M t (ev fr x) (ev fr v)) ⟨fun p => C .any [(p.1, some p.2)]⟩ := rfl
theorem wo_nilCheck (x : Operand) : wop P (.nilCheck x) fr M nid C = @optI _ (nilChk (ev fr x)) ⟨fun v => C v []⟩ := rfl
theorem wo_binOp (op : BinOp) (t : TypeId) (x y : Operand) (u : TypeId) : wop P (.binOp op t x y u) fr M nid C = (isNilS y = false ∧ @binI P op t x y (ev fr x) (ev fr y) ⟨fun v => C v []⟩) := rfl
theorem wo_unOp (op : UnOp) (t : TypeId) (x : Operand) : wop P (.unOp op t x) fr M nid C = @optI _ (unA op (ev fr x)) ⟨fun v => C v []⟩ := rfl
theorem wo_convert (s d : TypeId) (x : Operand) : wop P (.convert s d x) fr M nid C = @optI _ (convA P s d (ev fr x)) ⟨fun v => C v []⟩ := rfl
theorem wo_makeSlice (t : TypeId) (l c : Operand) : wop P (.makeSlice t l c) fr M nid C = @optI _ (makeSliceA P t (ev fr l) (ev fr c)) ⟨fun r => C (.l (.ms nid 0 r.2.length)) [(nid, some (.cells r.1 r.2 0))]⟩ := rfl
theorem wo_slice (t : TypeId) (x : Operand) (lo hi mx : Option Operand) : wop P (.slice t x lo hi mx) fr M nid C = @optI _ (sliceA P M t (ev fr x) (lo.map (ev fr)) (hi.map (ev fr)) (mx.map (ev fr))) ⟨fun v => C v []⟩ := rfl
theorem wo_fieldAddr (s : TypeId) (x : Operand) (f : Nat) : wop P (.fieldAddr s x f) fr M nid C = @optI _ (fieldAddrA P s (ev fr x) f) ⟨fun v => C v []⟩ := rfl
theorem wo_field (s : TypeId) (x : Operand) (f : Nat) : wop P (.field s x f) fr M nid C = @optI _ (fieldA P s (ev fr x) f) ⟨fun v => C v []⟩ := rfl
theorem wo_indexAddr (t : TypeId) (x i : Operand) : wop P (.indexAddr t x i) fr M nid C = @optI _ (indexAddrA P M t (ev fr x) (ev fr i)) ⟨fun v => C v []⟩ := rfl
theorem wo_index (t : TypeId) (x i : Operand) : wop P (.index t x i) fr M nid C = @optI _ (indexA P t (ev fr x) (ev fr i)) ⟨fun v => C v []⟩ := rfl
theorem wo_lookup (t : TypeId) (m k : Operand) (ok : Bool) : wop P (.lookup t m k ok) fr M nid C = @optI _ (lookupA P M t (ev fr m) (ev fr k) ok) ⟨fun v => C v []⟩ := rfl
theorem wo_extract (x : Operand) (i : Nat) : wop P (.extract x i) fr M nid C = @optI _ (extractA (ev fr x) i) ⟨fun v => C v []⟩ := rfl
theorem wo_call (f : FuncId) (l : List Operand) (ts : Array TypeId) : wop P (.call ⟨.value (.func f), l.toArray, ts⟩) fr M nid C = @wcallI P f (l.map (ev fr)) M nid ⟨C⟩ := rfl
theorem wo_min (x y : Operand) (t t' : TypeId) : wop P (.call ⟨.builtin .min, #[x, y], #[t, t']⟩) fr M nid C = @minI (ev fr x) (ev fr y) ⟨fun v => C v []⟩ := do_min P fr M (fun v => C v []) x y t t'
theorem wo_max (x y : Operand) (t t' : TypeId) : wop P (.call ⟨.builtin .max, #[x, y], #[t, t']⟩) fr M nid C = @maxI (ev fr x) (ev fr y) ⟨fun v => C v []⟩ := do_max P fr M (fun v => C v []) x y t t'
theorem wo_len (x : Operand) (t : TypeId) : wop P (.call ⟨.builtin .len, #[x], #[t]⟩) fr M nid C = @optI _ (lenA P M t (ev fr x)) ⟨fun v => C v []⟩ := rfl
def wappI (P : Program) (M : Mem) (nid : Nat) (t tx : TypeId) (s x : AV) [c : KonE] : Prop := wapp P M nid t tx s x c.k
theorem wo_append (x y : Operand) (t tx : TypeId) : wop P (.call ⟨.builtin .append, #[x, y], #[t, tx]⟩) fr M nid C = @wappI P M nid t tx (ev fr x) (ev fr y) ⟨C⟩ := rfl
end
end Go.X
set_option linter.unusedVariables false
set_option linter.unusedSimpArgs false
set_option linter.unusedSectionVars false
set_option maxRecDepth 100000
namespace Go.X
open Go.RowKit

theorem TOk_nil (AI : List Nat) (n0 : Nat) {D : List (List Nat)} : TOk [] AI D n0 := fun j id h => h.elim
theorem TOk_cons {T : List (Nat × Nat)} {AI : List Nat} {D : List (List Nat)} {n0 j id : Nat} (h : id < n0 ∨ ∃ k, k ∈ AI ∧ (k < j ∧ k ∉ dOf D j) ∧ id = n0 + k) (hr : TOk T AI D n0) : TOk ((j, id) :: T) AI D n0 := fun j' id' h' => by
  rcases h' with ⟨rfl, rfl⟩ | h'
  · exact h
  · exact hr j' id' h'

/-- What stands for a world by M stands for it by M', too. -/
def GStep (M M' : Mem) : Prop := ∀ g w, Rel g M w → ∃ g', Ev g w g' w ∧ Rel g' M' w
theorem GStep.le {M M' : Mem} (h : M'.le M) : GStep M M' := fun g w hR => ⟨g, Ev.refl _ _, hR.le h⟩
theorem GStep.trans {A B C : Mem} (h : GStep A B) (h' : GStep B C) : GStep A C := fun g w hR => by
  obtain ⟨g1, e1, r1⟩ := h g w hR
  obtain ⟨g2, e2, r2⟩ := h' g1 w r1
  exact ⟨g2, e1.trans e2, r2⟩
theorem GStep.frz_in {M : Mem} {id out T keep To keepo : Nat} {rows rowso : List (List Lf)} (hM : M id = some (.cells T rows keep)) (ho : M out = some (.cells To rowso keepo)) (hne : id ≠ out) :
    GStep M ((M.set id (.cells T rows (max keep rows.length))).set out (.cells To (rowso.map fun r => r.map (frzL id rows)) keepo)) := fun g w hR => rel_frz_in hR hM ho hne
theorem GStep.wk {M : Mem} {out To keepo : Nat} {rowso : List (List Lf)} (ho : M out = some (.cells To rowso keepo)) : GStep M (M.set out (.cells To (rowso.map fun r => r.map wkL) keepo)) := by
  intro g w hR
  refine ⟨g, Ev.refl _ _, ?_⟩
  have key : ∀ k bk, (M.set out (.cells To (rowso.map fun r => r.map wkL) keepo)) k = some bk → ∃ bk', M k = some bk' := fun k bk hk => by
    rw [Mem.set_app] at hk
    by_cases hi : out = k
    · subst hi; exact ⟨_, ho⟩
    · rw [if_neg hi] at hk; exact ⟨_, hk⟩
  exact {
    blk := fun i bk hbk => by
      rw [Mem.set_app] at hbk
      by_cases hi : out = i
      · subst hi
        rw [if_pos rfl, Option.some.injEq] at hbk
        subst hbk
        obtain ⟨b', sz', cr', cur, g1, g2, g3, g4, g5, g6, g7, g8, g9⟩ := hR.blk out _ ho
        refine ⟨b', sz', cr', cur, g1, g2, g3, g4, by simpa using g5, ⟨fun r hr => ?_, fun i j r x hr hx' => ?_⟩, g7, g8, g9⟩
        · obtain ⟨r0, hr0, rfl⟩ := List.mem_map.1 hr
          simp [g6.1 r0 hr0]
        · rw [List.getElem?_map] at hr
          obtain ⟨r0, hr0, rfl⟩ := Option.map_eq_some_iff.1 hr
          rw [List.getElem?_map] at hx'
          obtain ⟨y, hy, rfl⟩ := Option.map_eq_some_iff.1 hx'
          obtain ⟨u, hu, hcu⟩ := g6.2 i j r0 y hr0 hy
          exact ⟨u, hu, wkL_conc hcu⟩
      · rw [if_neg hi] at hbk
        exact hR.blk i bk hbk
    inj := fun i j bi bj hi hj => by
      obtain ⟨b1, h1⟩ := key i bi hi
      obtain ⟨b2, h2⟩ := key j bj hj
      exact hR.inj i j b1 b2 h1 h2
    lt := hR.lt
    fz := hR.fz
    fin := by
      obtain ⟨n, hn⟩ := hR.fin
      refine ⟨n, fun i hi => ⟨(hn i hi).1, ?_, (hn i hi).2.2⟩⟩
      rw [Mem.set_app]
      by_cases hio : out = i
      · subst hio; have := (hn out hi).2.1; rw [ho] at this; cases this
      · rw [if_neg hio]; exact (hn i hi).2.1
    below := hR.below
    tab := hR.tab }

theorem XCalls.gs {P : Program} {f : FuncId} {args : List AV} {M M' : Mem} {K : AV → Mem → Prop} (h : GStep M M') (hx : XCalls P f args M' K) : XCalls P f args M K := by
  refine ⟨hx.1, fun g w vs hP hA hR => ?_⟩
  obtain ⟨g', e, rel⟩ := h g w hR
  exact (hx.2 _ w vs (e.P.trans hP) ⟨hA.1, fun i x v a b => (hA.2 i x v a b).ev e⟩ rel).mono fun e1 w' ⟨rv, v, g', M', h1, h2, h3, h4⟩ => ⟨rv, v, g', M', h1, h2, e.trans h3, h4⟩
theorem XFin.gs {P : Program} {v : AV} {M M' : Mem} {K : AV → Mem → Prop} (h : GStep M M') (hx : XFin P v M' K) : XFin P v M K := fun g w c hP hc hR => by
  obtain ⟨g', e, rel⟩ := h g w hR
  obtain ⟨g2, v', M2, h1, h2, h3, h4⟩ := hx g' w c (e.P.trans hP) (hc.ev e) rel
  exact ⟨g2, v', M2, h1, e.trans h2, h3, h4⟩
theorem XWp.gs {P : Program} {n : Nat} {c : Code} {Q : XE → Fr → Mem → Prop} {fr : Fr} {M M' : Mem} (h : GStep M M') (hx : XWp P n c Q fr M') : XWp P n c Q fr M := fun g w a hP hF hR => by
  obtain ⟨g', e, rel⟩ := h g w hR
  exact wp_mono (hx g' w a (e.P.trans hP) (hF.ev e) rel) fun ex a' w' ⟨x, fr', M2, g2, h1, h2, h3, h4, h5⟩ => ⟨x, fr', M2, g2, h1, h2, e.trans h3, h4, h5⟩
theorem loopI_gs {P : Program} {n : Nat} {body : Code} {Q : XE → Fr → Mem → Prop} {fr : Fr} {M M' : Mem} (h : GStep M M') (hx : XLoop P n body Q fr M') : @loopI P n body fr M ⟨Q⟩ := loopI_of (XWp.gs h hx)
theorem finI_gs {P : Program} {v : AV} {M M' : Mem} {K : AV → Mem → Prop} (h : GStep M M') (hx : @finI P v M' ⟨K⟩) : @finI P v M ⟨K⟩ := XFin.gs h hx

end Go.X
set_option linter.unusedVariables false
set_option linter.unusedSimpArgs false
set_option maxRecDepth 100000
namespace Go.X
open Go.RowKit Go.ChangeShapes

/-- The ghost at a call's beginning: all cells that are there stay as they are. -/
def g0 (P : Program) (w : World) : Gh := ⟨fun _ => none, fun b o => ∃ v, w.cell? ⟨b, o, none⟩ = some v, w, P, fun _ => False⟩
def mem0 : Mem := fun _ => none
theorem rel0 (P : Program) (w : World) (ht : TabOK P w) : Rel (g0 P w) mem0 w where
  blk id b h := by cases h
  inj i j bi bj h := by cases h
  lt id x h := by cases h
  fz b o h := h
  fin := ⟨0, fun id _ => ⟨rfl, rfl, fun h => h⟩⟩
  below := Below.refl _ _
  tab := ht

def Opens (P : Program) (t : TypeId) (R : List Lf → Prop) : Prop :=
  ∀ (H : Type) (enc : TypeId × Value → H) (w : World) (spare : Nat → Bool) (held : Bool) (fuel : Nat) (cs : List Value) (x : DataW H × List MemPlace),
    DataW.trod enc P w 0 spare held fuel t cs = some x → (∀ n ∈ x.1.weights P t, n ≤ reachBytes) → ∃ ls, ConcL (g0 P w) w ls cs ∧ R ls

theorem Opens.mono {P : Program} {t : TypeId} {R R' : List Lf → Prop} (h : Opens P t R) (hr : ∀ ls, R ls → R' ls) : Opens P t R' :=
  fun H enc w spare held fuel cs x ht hw => by
    obtain ⟨ls, h1, h2⟩ := h H enc w spare held fuel cs x ht hw
    exact ⟨ls, h1, hr _ h2⟩
theorem opens_int {P : Program} {t : TypeId} {k : IntKind} (ht : P.underlying t = some (.int k)) : Opens P t fun ls => ∃ n, ls = [.int k n] ∧ (Lit.int k n).wf = true :=
  fun H enc w spare held fuel cs x h hw => by
    obtain ⟨n, rfl, _, hn⟩ := DataW.trod_int ht h
    exact ⟨[.int k n], .cons (.int k n) (.nil _ _), n, rfl, hn⟩
theorem opens_bool {P : Program} {t : TypeId} (ht : P.underlying t = some .bool) : Opens P t fun ls => ∃ b, ls = [.bool b] :=
  fun H enc w spare held fuel cs x h hw => by
    obtain ⟨b, rfl, _⟩ := DataW.trod_bool ht h
    exact ⟨[.bool b], .cons (.bool b) (.nil _ _), b, rfl⟩

/-- Fields that lie one behind the other. -/
def Contig (P : Program) : List Field → Nat → Nat → Prop
  | [], o, n => o = n
  | f :: r, o, n => f.offset = o ∧ Contig P r (o + P.cellsOf f.type) n
instance (P : Program) : ∀ (fs : List Field) (o n : Nat), Decidable (Contig P fs o n)
  | [], o, n => inferInstanceAs (Decidable (o = n))
  | f :: r, o, n => @instDecidableAnd _ _ _ (instDecidableContig P r _ n)
def OpensAll (P : Program) : List Field → List (List Lf → Prop) → Prop
  | [], [] => True
  | f :: fs, R :: Rs => Opens P f.type R ∧ OpensAll P fs Rs
  | _, _ => False
def RsAll : List (List Lf → Prop) → List Lf → Prop
  | [], ls => ls = []
  | R :: Rs, ls => ∃ a b, ls = a ++ b ∧ R a ∧ RsAll Rs b

theorem Contig.le {P : Program} : ∀ {fs : List Field} {o n : Nat}, Contig P fs o n → o ≤ n
  | [], o, n, h => Nat.le_of_eq h
  | f :: r, o, n, h => by have := Contig.le h.2; omega
theorem open_fields {H : Type} {enc : TypeId × Value → H} {P : Program} {w : World} {spare : Nat → Bool} {held : Bool} {fuel : Nat} {cs : List Value} :
    ∀ (fs : List Field) (Rs : List (List Lf → Prop)) (xs : List (DataW H × List MemPlace)) (o : Nat), Contig P fs o cs.length → OpensAll P fs Rs → xs.length = fs.length →
      (∀ (i : Nat) (f : Field), fs[i]? = some f → DataW.trod enc P w 0 spare held fuel f.type ((cs.drop f.offset).take (P.cellsOf f.type)) = xs[i]?) →
      (∀ (i : Nat) (f : Field) (y : DataW H × List MemPlace), fs[i]? = some f → xs[i]? = some y → ∀ n ∈ y.1.weights P f.type, n ≤ reachBytes) →
      ∃ ls, ConcL (g0 P w) w ls (cs.drop o) ∧ RsAll Rs ls
  | [], [], xs, o, hc, ho, hl, ht, hw => by
    refine ⟨[], ?_, rfl⟩
    rw [hc, List.drop_length]
    exact .nil _ _
  | [], R :: Rs, xs, o, hc, ho, hl, ht, hw => ho.elim
  | f :: fs, [], xs, o, hc, ho, hl, ht, hw => ho.elim
  | f :: fs, R :: Rs, [], o, hc, ho, hl, ht, hw => by simp at hl
  | f :: fs, R :: Rs, y :: xs, o, hc, ho, hl, ht, hw => by
    have h0 := ht 0 f rfl
    simp only [List.getElem?_cons_zero] at h0
    obtain ⟨a, ha, hra⟩ := ho.1 H enc w spare held fuel _ y h0 (hw 0 f y rfl rfl)
    obtain ⟨b, hb, hrb⟩ := open_fields fs Rs xs (o + P.cellsOf f.type) hc.2 ho.2 (by simpa using hl) (fun i f' hf => by simpa using ht (i + 1) f' (by simpa using hf)) (fun i f' y' hf hy => hw (i + 1) f' y' (by simpa using hf) (by simpa using hy))
    refine ⟨a ++ b, ?_, a, b, rfl, hra, hrb⟩
    have : cs.drop o = (cs.drop f.offset).take (P.cellsOf f.type) ++ cs.drop (o + P.cellsOf f.type) := by
      rw [hc.1, ← List.drop_drop, List.take_append_drop]
    rw [this]
    exact ha.append hb

theorem opens_struct {P : Program} {t : TypeId} {fs : Array Field} (ht : P.underlying t = some (.struct fs)) (Rs : List (List Lf → Prop)) (hc : Contig P fs.toList 0 (P.cellsOf t)) (ho : OpensAll P fs.toList Rs) : Opens P t (RsAll Rs) :=
  fun H enc w spare held fuel cs x h hw => by
    obtain ⟨xs, n, rfl, rfl, hl, hlen, hf⟩ := DataW.trod_struct ht h
    have := open_fields (enc := enc) (w := w) (spare := spare) (held := held) (fuel := n) (cs := cs) fs.toList Rs xs 0 (by rw [hl]; exact hc) ho (by simpa using hlen) (fun i f hf' => hf i f (by simpa using hf')) (fun i f y hf' hy m hm => hw m (by
      simp only [DataW.weights, ht]
      refine DataW.weights_mem_each (j := i) (t := f.type) (d := y.1) ?_ ?_ m hm
      · rw [List.getElem?_map, hf']; rfl
      · rw [List.getElem?_map, hy]; rfl))
    simpa using this

theorem mem_weightsAll {H : Type} {P : Program} {e : TypeId} : ∀ {l : List (DataW H)} {d : DataW H}, d ∈ l → ∀ n ∈ d.weights P e, n ∈ DataW.weightsAll P e l
  | [], d, h, _, _ => by cases h
  | y :: r, d, h, n, hn => by
    simp only [DataW.weightsAll, List.mem_append]
    rcases List.mem_cons.1 h with rfl | h
    · exact .inl hn
    · exact .inr (mem_weightsAll h n hn)

theorem opens_slice {P : Program} {t e : TypeId} {R : List Lf → Prop} (ht : P.underlying t = some (.slice e)) (he : Opens P e R) (hpos : 0 < P.cellsOf e) :
    Opens P t fun ls => ∃ rows, ls = [.sl rows] ∧ (∀ r ∈ rows, R r) ∧ rows.length * P.bytesOf e ≤ reachBytes :=
  fun H enc w spare held fuel cs x h hw => by
    rcases DataW.trod_slice ht h with ⟨rfl, rfl⟩ | ⟨a, len, cap, elems, rest, n, rfl, rfl, rfl, hb, hlc, hcm, hel, hs, hsp, hns⟩
    · exact ⟨[.sl []], .cons .sl0 (.nil _ _), [], rfl, (fun r hr => by cases hr), by simp⟩
    · have hbytes : len * P.bytesOf e ≤ reachBytes := by
        have h1 : (elems.length + rest.length) * P.bytesOf e ≤ reachBytes := hw _ (by simp [DataW.weights, ht])
        have h2 : len * P.bytesOf e ≤ (elems.length + rest.length) * P.bytesOf e := Nat.mul_le_mul_right _ (by omega)
        omega
      by_cases h0 : len = 0
      · subst h0
        exact ⟨[.sl []], .cons .sl0 (.nil _ _), [], rfl, (fun r hr => by cases hr), by simp⟩
      · have each : ∀ i, i < len → ∃ ls cs', w.cells? 0 (a.add (i * P.cellsOf e)) (P.cellsOf e) = some cs' ∧ ConcL (g0 P w) w ls cs' ∧ R ls := fun i hi => by
          have h1 := hs i hi
          have hi' : i < elems.length := by omega
          rw [List.getElem?_eq_getElem hi', Option.bind_eq_some_iff] at h1
          obtain ⟨cs', h2, h3⟩ := h1
          obtain ⟨ls, h4, h5⟩ := he H enc w spare held n cs' _ h3 (fun m hm => hw m (by
            simp only [DataW.weights, ht, List.mem_cons, List.mem_append]
            refine .inr (.inl (mem_weightsAll (List.mem_map.2 ⟨_, List.getElem_mem hi', rfl⟩) m hm))))
          exact ⟨ls, cs', h2, h4, h5⟩
        have hspot : a.spot = none := by
          obtain ⟨ls, cs', h2, _, _⟩ := each 0 (by omega)
          have h3 := (World.cells?_some h2).2.2 0 hpos
          have hl := (World.cells?_some h2).2.1
          have e1 : (a.add (0 * P.cellsOf e)).add 0 = a := by simp [Addr.add]
          rw [e1] at h3
          have h4 : cs'[0]? = some cs'[0] := List.getElem?_eq_getElem (by omega)
          rw [h4] at h3
          cases hsp : a.spot with
          | none => rfl
          | some s =>
            unfold World.cell? at h3
            split at h3
            · rw [hsp] at h3; cases h3
            · cases h3
        obtain ⟨b, o, sp⟩ := a
        simp only at hspot
        subst hspot
        have each' : ∀ i, ∃ ls, i < len → ∃ cs', w.cells? 0 ((⟨b, o, none⟩ : Addr).add (i * P.cellsOf e)) (P.cellsOf e) = some cs' ∧ ConcL (g0 P w) w ls cs' ∧ R ls := fun i => by
          by_cases hi : i < len
          · obtain ⟨ls, cs', h1⟩ := each i hi
            exact ⟨ls, fun _ => ⟨cs', h1⟩⟩
          · exact ⟨[], fun h => absurd h hi⟩
        let f : Nat → List Lf := fun i => Classical.choose (each' i)
        have hf : ∀ i, i < len → ∃ cs', w.cells? 0 ((⟨b, o, none⟩ : Addr).add (i * P.cellsOf e)) (P.cellsOf e) = some cs' ∧ ConcL (g0 P w) w (f i) cs' ∧ R (f i) := fun i hi => Classical.choose_spec (each' i) hi
        have hcell : ∀ i j, i < len → j < P.cellsOf e → ∃ v x, w.cell? ⟨b, o + (i * P.cellsOf e + j), none⟩ = some v ∧ (f i)[j]? = some x ∧ Conc (g0 P w) w x v := fun i j hi hj => by
          obtain ⟨cs', h1, h2, h3⟩ := hf i hi
          obtain ⟨_, hl, hc⟩ := World.cells?_some h1
          have h4 := hc j hj
          rw [addr_add, addr_add, Nat.add_assoc] at h4
          have hj' : j < cs'.length := by omega
          have hj2 : j < (f i).length := by rw [h2.1]; exact hj'
          refine ⟨cs'[j], (f i)[j], by rw [h4]; exact List.getElem?_eq_getElem hj', List.getElem?_eq_getElem hj2, h2.2 j _ _ (List.getElem?_eq_getElem hj2) (List.getElem?_eq_getElem hj')⟩
        refine ⟨[.sl ((List.range len).map f)], .cons ?_ (.nil _ _), _, rfl, (fun r hr => ?_), by simpa using hbytes⟩
        · have hln : ((List.range len).map f).length = len := by simp
          have hc := Conc.sl (g := g0 P w) (w := w) (rows := (List.range len).map f) (b := b) (o := o) (sz := P.cellsOf e) (cap := cap) (fun k => (w.cell? ⟨b, o + k, none⟩).getD undef) ?_ (by simpa using hlc) ?_ ?_
          · rw [hln] at hc
            exact hc
          · intro r hr
            obtain ⟨i, hi, rfl⟩ := List.mem_map.1 hr
            obtain ⟨cs', h1, h2, h3⟩ := hf i (by simpa using hi)
            rw [h2.1, (World.cells?_some h1).2.1]
          · intro k hk
            rw [hln] at hk
            have hi : k / P.cellsOf e < len := (Nat.div_lt_iff_lt_mul hpos).2 hk
            have hj : k % P.cellsOf e < P.cellsOf e := Nat.mod_lt _ hpos
            obtain ⟨v, x, h1, h2, h3⟩ := hcell _ _ hi hj
            rw [Nat.div_add_mod'] at h1
            rw [h1]
            exact ⟨⟨v, h1⟩, rfl⟩
          · intro i j r x hr hx
            rw [List.getElem?_map] at hr
            obtain ⟨i', hi', rfl⟩ := Option.map_eq_some_iff.1 hr
            have hi2 : i < len := by
              have := (List.getElem?_eq_some_iff.1 hi').1
              simpa using this
            have e1 : i' = i := by
              rw [List.getElem?_range hi2] at hi'
              simpa using hi'.symm
            subst e1
            obtain ⟨cs', h1, h2, h3⟩ := hf i' hi2
            have hj : j < P.cellsOf e := by
              have := (List.getElem?_eq_some_iff.1 hx).1
              rw [h2.1, (World.cells?_some h1).2.1] at this
              exact this
            obtain ⟨v, y, k1, k2, k3⟩ := hcell _ _ hi2 hj
            rw [hx, Option.some.injEq] at k2
            subst k2
            rw [k1]
            exact k3
        · obtain ⟨i, hi, rfl⟩ := List.mem_map.1 hr
          obtain ⟨cs', h1, h2, h3⟩ := hf i (by simpa using hi)
          exact h3
end Go.X
set_option linter.unusedVariables false
set_option linter.unusedSimpArgs false
set_option maxRecDepth 100000
namespace Go.X
open Go.RowKit

theorem call_of {P : Program} {f : FuncId} {args : List AV} {M : Mem} {v : AV} {K : AV → Mem → Prop} (h : XCalls P f args M fun r M' => r = v ∧ M' = M) (hk : K v M) : @callI P f args M ⟨K⟩ :=
  callI_of (h.mono (by rintro _ _ ⟨rfl, rfl⟩; exact hk))
/-- A slice of a block that is kept already. -/
theorem XCalls.frz0 {P : Program} {f : FuncId} {args : List AV} {M : Mem} {K : AV → Mem → Prop} (id : Nat) {T keep : Nat} {rows : List (List Lf)} (hM : M id = some (.cells T rows keep)) (hk : rows.length ≤ keep) (h : XCalls P f (args.map (frzA id rows)) M K) : XCalls P f args M K := by
  have e : M.set id (.cells T rows (max keep rows.length)) = M := by
    funext i
    rw [Mem.set_app]
    split
    · rename_i e
      subst e
      rw [hM, Nat.max_eq_left hk]
    · rfl
  exact XCalls.frz id hM (by rw [e]; exact h)
theorem XCalls.kept {P : Program} {f : FuncId} {M : Mem} {K : AV → Mem → Prop} (id n : Nat) {T keep : Nat} {rows : List (List Lf)} (hM : M id = some (.cells T rows keep)) (hn : n = rows.length) (hk : rows.length ≤ keep) (h : XCalls P f [.l (.sl rows)] M K) : XCalls P f [.l (.ms id 0 n)] M K := by
  subst hn
  refine XCalls.frz0 id hM hk ?_
  simpa [frzA, frz1, frzL, List.take_of_length_le] using h
theorem GStep.frz {M : Mem} {id T keep : Nat} {rows : List (List Lf)} (hM : M id = some (.cells T rows keep)) : GStep M (M.set id (.cells T rows (max keep rows.length))) := fun g w hR => by
  obtain ⟨b, sz, cr, hx⟩ := blk_of hR hM
  obtain ⟨e, rel, _⟩ := rel_frz hR hM hx
  exact ⟨_, e, rel⟩
theorem callI_gs {P : Program} {f : FuncId} {args : List AV} {M M' : Mem} {K : AV → Mem → Prop} (h : GStep M M') (hx : @callI P f args M' ⟨K⟩) : @callI P f args M ⟨K⟩ := callI_of (XCalls.gs h hx)
/-- The same for a block that is there already. -/
theorem GStep.keep' {N : Mem} {id T : Nat} {rows rows' : List (List Lf)} (hM : N id = some (.cells T rows 0)) (hr : rows.map (fun r => r.map wkL) = rows') : GStep N (N.set id (.cells T rows' rows'.length)) := by
  subst hr
  have h1 := GStep.wk hM
  have h2 := GStep.frz (Mem.set_eq N id (.cells T (rows.map fun r => r.map wkL) 0))
  have h3 := h1.trans h2
  rw [Mem.set_set, Nat.zero_max] at h3
  exact h3
theorem wapp_ms (P : Program) (M : Mem) (nid : Nat) (t tx e : TypeId) (ti te : TI) (hti : tiOf P t = some ti) (hd : ti.d = .slice e) (hte : tiOf P e = some te) (hz : zeroFits P e = true) (hpos : 0 < te.size) (id len : Nat) (x : AV) {rows : List (List Lf)} {keep : Nat} (src : List (List Lf))
    (hM : M id = some (.cells e rows keep)) (hsrc : srcRows P M t tx e te x = some src) (hl : len ≤ rows.length) (hk : keep ≤ len) (hb : (len + src.length) * te.bytes ≤ 140737488355328) (hb' : len + src.length ≤ 140737488355328) {C : AV → Eff → Prop}
    (h : C (.l (.ms nid 0 (len + src.length))) [(id, none), (nid, some (.cells e (rows.take len ++ src) keep))]) : @wappI P M nid t tx (.l (.ms id 0 len)) x ⟨C⟩ := by
  show wapp P M nid t tx (.l (.ms id 0 len)) x C
  unfold wapp
  simp only [hti, hd, hte, hsrc, optK, hM]
  exact ⟨hz, hpos, trivial, hl, hk, hb, hb', h⟩
theorem drawI_gs {P : Program} {n id : Nat} {ops : Array Oper} {K : Fr → Mem → Prop} {fr : Fr} {M M' : Mem} (h : GStep M M') (hx : @drawI P n id ops fr M' ⟨K⟩) : @drawI P n id ops fr M ⟨K⟩ := drawI_of (XWp.gs h hx)
end Go.X
set_option linter.unusedVariables false
set_option linter.unusedSimpArgs false
set_option maxRecDepth 100000
namespace Go.X
open Go.RowKit

theorem optK_mono {α : Type} {o : Option α} {K K' : α → Prop} (hk : ∀ a, K a → K' a) (h : optK o K) : optK o K' := by
  obtain ⟨a, rfl, ha⟩ := optK_elim h
  exact hk a ha
theorem newK_mono {M : Mem} {K K' : Nat → Prop} (hk : ∀ a, K a → K' a) (h : newK M K) : newK M K' := fun id hid => hk id (h id hid)
theorem pickK_mono {c x y : AV} {K K' : AV → Prop} (hk : ∀ a, K a → K' a) (h : pickK c x y K) : pickK c x y K' := by
  unfold pickK at h ⊢
  split at h
  · exact hk _ h
  · exact h.elim
theorem gK_mono {t : AV} {u : Bool} {A B A' B' : Prop} (ha : A → A') (hb : B → B') (h : gK t u A B) : gK t u A' B' := by
  unfold gK at h ⊢
  split at h
  · exact ⟨fun e => ha (h.1 e), fun e => hb (h.2 e)⟩
  · exact hb h
  · exact h.elim
theorem nilSK_mono {q : Bool} {x : AV} {K K' : AV → Prop} (hk : ∀ a, K a → K' a) (h : nilSK q x K) : nilSK q x K' := by
  unfold nilSK at h ⊢
  split at h
  · exact ⟨fun e b => hk _ (h.1 e b), fun e => hk _ (h.2 e)⟩
  · exact fun b => hk _ (h b)
  · exact hk _ h
  · exact h.elim
theorem binK_mono {P : Program} {op : BinOp} {t : TypeId} {x y : Operand} {a b : AV} {K K' : AV → Prop} (hk : ∀ a, K a → K' a) (h : binK P op t x y a b K) : binK P op t x y a b K' := by
  unfold binK at h ⊢
  split at h
  · split at h
    · rename_i e; rw [if_pos e]; exact optK_mono (fun a => hk _) h
    · rename_i e; rw [if_neg e]; exact optK_mono (fun a => hk _) h
  · split at h
    · split at h
      · rename_i e; rw [if_pos e]
        split at h
        · split at h
          · exact nilSK_mono hk h
          · exact h.elim
        · exact h.elim
      · rename_i e; rw [if_neg e]; exact optK_mono (fun a => hk _) h
    · split at h
      · rename_i e; rw [if_pos e]
        split at h
        · split at h
          · exact nilSK_mono hk h
          · exact h.elim
        · exact h.elim
      · rename_i e; rw [if_neg e]; exact optK_mono (fun a => hk _) h
    · split at h
      · exact ⟨h.1, hk _ h.2⟩
      · exact h.elim
    · first | exact h.elim | exact optK_mono (fun a => hk _) h
theorem dynK_mono {P : Program} {t : AV} {args : List AV} {M : Mem} {K K' : AV → Mem → Prop} (hk : ∀ a M, K a M → K' a M) (h : dynK P t args M K) : dynK P t args M K' := by
  unfold dynK at h ⊢
  split at h
  · exact h.mono hk
  · exact h.elim
theorem appendK_mono {P : Program} {M : Mem} {t tx : TypeId} {s x : AV} {K K' : AV → Mem → Prop} (hk : ∀ a M, K a M → K' a M) (h : appendG (newK M) P M t tx s x K) : appendG (newK M) P M t tx s x K' := by
  unfold appendG at h ⊢
  split at h
  · split at h
    · split at h
      · refine ⟨h.1, optK_mono (fun src h => ?_) h.2⟩
        split at h
        · exact ⟨h.1, fun e => hk _ _ (h.2.1 e), fun e => ⟨(h.2.2 e).1, (h.2.2 e).2.1, newK_mono (fun id h => hk _ _ h) (h.2.2 e).2.2⟩⟩
        · split at h
          · obtain ⟨a1, a2, a3, a4, a5, a6, a7⟩ := h
            exact ⟨a1, a2, a3, a4, a5, a6, newK_mono (fun id h => hk _ _ h) a7⟩
          · exact h.elim
        · exact h.elim
      · exact h.elim
    · exact h.elim
  · exact h.elim
theorem appendA_mono {P : Program} {M : Mem} {t tx : TypeId} {s x : AV} {K K' : AV → Mem → Prop} (hk : ∀ a M, K a M → K' a M) (h : appendA (newK M) P M t tx s x K) : appendA (newK M) P M t tx s x K' := by
  unfold appendA at h ⊢
  split at h
  · unfold appendZ at h ⊢
    split at h
    · split at h
      · split at h
        · split at h
          · obtain ⟨a1, a2, a3, a4, a5, a6, a7⟩ := h
            exact ⟨a1, a2, a3, a4, a5, a6, newK_mono (fun id h => hk _ _ h) a7⟩
          · exact h.elim
        · exact h.elim
      · exact h.elim
    · exact h.elim
  · exact appendK_mono hk h
theorem builtK_mono {P : Program} {b : Builtin} {ts : List TypeId} {xs : List AV} {M : Mem} {K K' : AV → Mem → Prop} (hk : ∀ a M, K a M → K' a M) (h : builtG (newK M) P b ts xs M K) : builtG (newK M) P b ts xs M K' := by
  unfold builtG at h ⊢
  split at h
  · exact optK_mono (fun a => hk _ _) h
  · exact appendA_mono hk h
  · exact optK_mono (fun a => hk _ _) h
  · split at h
    · split at h
      · exact hk _ _ h
      · exact h.elim
    · exact h.elim
  · exact optK_mono (fun a => hk _ _) h
  · exact hk _ _ h
  · exact hk _ _ h
  · exact h.elim
theorem vopc_mono {P : Program} {op : Op} {fr : Fr} {M : Mem} {K K' : AV → Mem → Prop} (hk : ∀ a M, K a M → K' a M) (h : vopc P op fr M K) : vopc P op fr M K' := by
  unfold vopc vopcG at h ⊢
  split at h
  · exact hk _ _ h
  · exact hk _ _ h
  · exact pickK_mono (fun a => hk _ _) h
  · exact optK_mono (fun a => optK_mono fun b h => ⟨h.1, newK_mono (fun id => hk _ _) h.2⟩) h
  · exact optK_mono (fun a => optK_mono fun b h => ⟨h.1, newK_mono (fun id => hk _ _) h.2⟩) h
  · exact optK_mono (fun a => hk _ _) h
  · exact optK_mono (fun a => newK_mono fun id => hk _ _) h
  · exact optK_mono (fun a => hk _ _) h
  · exact optK_mono (fun a => hk _ _) h
  · exact optK_mono (fun a => hk _ _) h
  · exact binK_mono (fun a => hk _ _) h
  · exact optK_mono (fun a => hk _ _) h
  · exact optK_mono (fun a => hk _ _) h
  · split at h
    · exact ⟨h.1, optK_mono (fun a => hk _ _) h.2⟩
    · exact h.elim
  · exact optK_mono (fun a => newK_mono fun id => hk _ _) h
  · split at h
    · exact newK_mono (fun id => hk _ _) h
    · exact h.elim
  · exact optK_mono (fun a => hk _ _) h
  · exact optK_mono (fun a => hk _ _) h
  · exact optK_mono (fun a => hk _ _) h
  · exact optK_mono (fun a => hk _ _) h
  · exact optK_mono (fun a => hk _ _) h
  · exact optK_mono (fun a => hk _ _) h
  · exact optK_mono (fun a => hk _ _) h
  · exact optK_mono (fun a => hk _ _) h
  · unfold callG at h ⊢
    split at h
    · exact h.mono hk
    · exact dynK_mono hk h
    · exact builtK_mono hk h
    · exact h.elim
  · exact h.elim
theorem vops_mono {P : Program} {ops : List Oper} {K K' : Fr → Mem → Prop} (hk : ∀ a M, K a M → K' a M) : ∀ (l : List Oper) (fr : Fr) (M : Mem), vops P ops l K fr M → vops P ops l K' fr M
  | [], fr, M, h => hk _ _ h
  | o :: rest, fr, M, h => by
    unfold vops at h ⊢
    split at h
    · exact vopc_mono (fun a M h => vops_mono hk rest _ _ h) h
    · split at h
      · exact gK_mono (fun h => vopc_mono (fun a M h => vops_mono hk rest _ _ h) h) (fun h => vops_mono hk rest _ _ h) h
      · exact h.elim
theorem seqQ_mono {K K' : Fr → Mem → Prop} {Q Q' : XE → Fr → Mem → Prop} (hk : ∀ a M, K a M → K' a M) (hq : ∀ e a M, Q e a M → Q' e a M) : ∀ e a M, seqQ K Q e a M → seqQ K' Q' e a M
  | .normal, _, _, h => hk _ _ h
  | .exit _, _, _, h => hq _ _ _ h
  | .ret, _, _, h => hq _ _ _ h
theorem blockQ_mono {id : Nat} {Q Q' : XE → Fr → Mem → Prop} (hq : ∀ e a M, Q e a M → Q' e a M) : ∀ e a M, blockQ id Q e a M → blockQ id Q' e a M
  | .normal, _, _, h => hq _ _ _ h
  | .ret, _, _, h => hq _ _ _ h
  | .exit i, _, _, h => by
    rw [blockQ_exit] at h ⊢
    split
    · rename_i e; rw [if_pos e] at h; exact hq _ _ _ h
    · rename_i e; rw [if_neg e] at h; exact hq _ _ _ h
theorem condK_mono {t : AV} {A B A' B' : Prop} (ha : A → A') (hb : B → B') (h : condK t A B) : condK t A' B' := by
  unfold condK at h ⊢
  split at h
  · exact ⟨fun e => ha (h.1 e), fun e => hb (h.2 e)⟩
  · exact h.elim
theorem vc_mono {P : Program} {n : Nat} : ∀ (c : Code) {Q Q' : XE → Fr → Mem → Prop} (fr : Fr) (M : Mem), (∀ e a M, Q e a M → Q' e a M) → vc P n c Q fr M → vc P n c Q' fr M
  | .skip, Q, Q', fr, M, hq, h => hq _ _ _ h
  | .ret, Q, Q', fr, M, hq, h => hq _ _ _ h
  | .exit _, Q, Q', fr, M, hq, h => hq _ _ _ h
  | .seq a b, Q, Q', fr, M, hq, h => vc_mono a fr M (seqQ_mono (fun fr M h => vc_mono b fr M hq h) hq) h
  | .cond c a b, Q, Q', fr, M, hq, h => condK_mono (fun h => vc_mono a fr M hq h) (fun h => vc_mono b fr M hq h) h
  | .block id b, Q, Q', fr, M, hq, h => vc_mono b fr M (blockQ_mono hq) h
  | .loop b, Q, Q', fr, M, hq, h => XWp.mono h hq
  | .region id ops true, Q, Q', fr, M, hq, h => XWp.mono h (seqQ_mono (fun a M h => hq _ _ _ h) fun _ _ _ h => h)
  | .region id ops false, Q, Q', fr, M, hq, h => vops_mono (fun a M h => hq _ _ _ h) ops.toList fr M h
  | .scope _, _, _, _, _, _, h => h.elim
  | .label _, _, _, _, _, _, h => h.elim
  | .goto _, _, _, _, _, _, h => h.elim
/-- Where ways meet again: what holds there ('Mid') is all that is known behind it. -/
theorem vc_cut {P : Program} {n : Nat} {a b : Code} {Q : XE → Fr → Mem → Prop} {fr : Fr} {M : Mem} (Mid : Fr → Mem → Prop) (h : vc P n a (seqQ Mid Q) fr M) (h' : ∀ fr M, Mid fr M → vc P n b Q fr M) : vc P n (.seq a b) Q fr M :=
  vc_mono a fr M (seqQ_mono h' fun _ _ _ h => h) h
end Go.X
set_option maxRecDepth 4000
namespace Go.X

theorem ti_1 : tiOf Go.Proofs.Tryd.prog 1 = some ⟨1, false, 8, .l (.nilf), .func⟩ := by kernel_rfl
theorem ti_2 : tiOf Go.Proofs.Tryd.prog 2 = some ⟨1, false, 8, .l (.int .i64 0), .int .i64⟩ := by kernel_rfl
theorem ti_3 : tiOf Go.Proofs.Tryd.prog 3 = some ⟨1, false, 8, .l (.int .i64 0), .int .i64⟩ := by kernel_rfl
theorem ti_4 : tiOf Go.Proofs.Tryd.prog 4 = some ⟨1, false, 1, .l (.bool false), .bool⟩ := by kernel_rfl
theorem ti_5 : tiOf Go.Proofs.Tryd.prog 5 = some ⟨1, false, 1, .l (.int .u8 0), .int .u8⟩ := by kernel_rfl
theorem ti_6 : tiOf Go.Proofs.Tryd.prog 6 = some ⟨1, false, 1, .l (.int .u8 0), .int .u8⟩ := by kernel_rfl
theorem ti_7 : tiOf Go.Proofs.Tryd.prog 7 = some ⟨4, true, 24, .agg [.int .i64 0, .int .i64 0, .bool false, .int .u8 0], .struct [(0, 2), (1, 3), (2, 4), (3, 6)]⟩ := by kernel_rfl
theorem ti_8 : tiOf Go.Proofs.Tryd.prog 8 = some ⟨4, true, 24, .agg [.int .i64 0, .int .i64 0, .bool false, .int .u8 0], .struct [(0, 2), (1, 3), (2, 4), (3, 6)]⟩ := by kernel_rfl
theorem ti_9 : tiOf Go.Proofs.Tryd.prog 9 = some ⟨1, false, 16, .l (.str ⟨#[]⟩), .string⟩ := by kernel_rfl
theorem ti_10 : tiOf Go.Proofs.Tryd.prog 10 = some ⟨1, false, 16, .l (.str ⟨#[]⟩), .string⟩ := by kernel_rfl
theorem ti_11 : tiOf Go.Proofs.Tryd.prog 11 = some ⟨1, false, 16, .l (.str ⟨#[]⟩), .string⟩ := by kernel_rfl
theorem ti_12 : tiOf Go.Proofs.Tryd.prog 12 = some ⟨1, false, 8, .l (.int .u64 0), .int .u64⟩ := by kernel_rfl
theorem ti_13 : tiOf Go.Proofs.Tryd.prog 13 = some ⟨2, true, 24, .agg [.str ⟨#[]⟩, .int .u64 0], .struct [(0, 9), (1, 12)]⟩ := by kernel_rfl
theorem ti_14 : tiOf Go.Proofs.Tryd.prog 14 = some ⟨2, true, 24, .agg [.str ⟨#[]⟩, .int .u64 0], .struct [(0, 9), (1, 12)]⟩ := by kernel_rfl
theorem ti_15 : tiOf Go.Proofs.Tryd.prog 15 = some ⟨1, false, 8, .l (.nilp), .pointer 139⟩ := by kernel_rfl
theorem ti_16 : tiOf Go.Proofs.Tryd.prog 16 = some ⟨1, false, 8, .l (.nilp), .pointer 142⟩ := by kernel_rfl
theorem ti_17 : tiOf Go.Proofs.Tryd.prog 17 = some ⟨1, false, 8, .l (.nilp), .pointer 149⟩ := by kernel_rfl
theorem ti_18 : tiOf Go.Proofs.Tryd.prog 18 = some ⟨1, true, 8, .agg [.nilp], .struct [(0, 17)]⟩ := by kernel_rfl
theorem ti_19 : tiOf Go.Proofs.Tryd.prog 19 = some ⟨1, true, 8, .agg [.nilp], .struct [(0, 17)]⟩ := by kernel_rfl
theorem ti_20 : tiOf Go.Proofs.Tryd.prog 20 = some ⟨1, false, 16, .l (.nili), .iface⟩ := by kernel_rfl
theorem ti_21 : tiOf Go.Proofs.Tryd.prog 21 = some ⟨1, false, 4, .l (.int .i32 0), .int .i32⟩ := by kernel_rfl
theorem ti_22 : tiOf Go.Proofs.Tryd.prog 22 = some ⟨1, false, 24, .l (.nils), .slice 46⟩ := by kernel_rfl
theorem ti_23 : tiOf Go.Proofs.Tryd.prog 23 = some ⟨2, true, 32, .agg [.int .i64 0, .nils], .struct [(0, 3), (1, 22)]⟩ := by kernel_rfl
theorem ti_24 : tiOf Go.Proofs.Tryd.prog 24 = some ⟨2, true, 32, .agg [.int .i64 0, .nils], .struct [(0, 3), (1, 22)]⟩ := by kernel_rfl
theorem ti_25 : tiOf Go.Proofs.Tryd.prog 25 = some ⟨1, false, 8, .l (.nilf), .func⟩ := by kernel_rfl
theorem ti_26 : tiOf Go.Proofs.Tryd.prog 26 = some ⟨1, false, 8, .l (.nilf), .func⟩ := by kernel_rfl
theorem ti_27 : tiOf Go.Proofs.Tryd.prog 27 = some ⟨1, false, 8, .l (.int .i64 0), .int .i64⟩ := by kernel_rfl
theorem ti_29 : tiOf Go.Proofs.Tryd.prog 29 = some ⟨1, false, 8, .l (.nilf), .func⟩ := by kernel_rfl
theorem ti_30 : tiOf Go.Proofs.Tryd.prog 30 = some ⟨1, false, 24, .l (.nils), .slice 3⟩ := by kernel_rfl
theorem ti_31 : tiOf Go.Proofs.Tryd.prog 31 = some ⟨1, false, 8, .l (.nilf), .func⟩ := by kernel_rfl
theorem ti_32 : tiOf Go.Proofs.Tryd.prog 32 = some ⟨1, false, 8, .l (.nilf), .func⟩ := by kernel_rfl
theorem ti_33 : tiOf Go.Proofs.Tryd.prog 33 = some ⟨1, false, 8, .l (.nilf), .func⟩ := by kernel_rfl
theorem ti_34 : tiOf Go.Proofs.Tryd.prog 34 = some ⟨1, false, 8, .l (.nilf), .func⟩ := by kernel_rfl
theorem ti_35 : tiOf Go.Proofs.Tryd.prog 35 = some ⟨1, false, 8, .l (.nilf), .func⟩ := by kernel_rfl
theorem ti_36 : tiOf Go.Proofs.Tryd.prog 36 = some ⟨1, false, 8, .l (.nilf), .func⟩ := by kernel_rfl
theorem ti_37 : tiOf Go.Proofs.Tryd.prog 37 = some ⟨1, false, 24, .l (.nils), .slice 4⟩ := by kernel_rfl
theorem ti_38 : tiOf Go.Proofs.Tryd.prog 38 = some ⟨3, true, 56, .agg [.int .i64 0, .nils, .nils], .struct [(0, 3), (1, 30), (2, 37)]⟩ := by kernel_rfl
theorem ti_39 : tiOf Go.Proofs.Tryd.prog 39 = some ⟨3, true, 56, .agg [.int .i64 0, .nils, .nils], .struct [(0, 3), (1, 30), (2, 37)]⟩ := by kernel_rfl
theorem ti_41 : tiOf Go.Proofs.Tryd.prog 41 = some ⟨1, false, 8, .l (.nilf), .func⟩ := by kernel_rfl
theorem ti_42 : tiOf Go.Proofs.Tryd.prog 42 = some ⟨1, false, 8, .l (.int .u64 0), .int .u64⟩ := by kernel_rfl
theorem ti_43 : tiOf Go.Proofs.Tryd.prog 43 = some ⟨1, false, 8, .l (.nilf), .func⟩ := by kernel_rfl
theorem ti_44 : tiOf Go.Proofs.Tryd.prog 44 = some ⟨1, false, 24, .l (.nils), .slice 79⟩ := by kernel_rfl
theorem ti_45 : tiOf Go.Proofs.Tryd.prog 45 = some ⟨6, true, 64, .agg [.bool false, .int .i64 0, .int .i64 0, .int .i64 0, .nils, .int .i64 0], .struct [(0, 4), (1, 3), (2, 3), (3, 3), (4, 44), (5, 3)]⟩ := by kernel_rfl
theorem ti_46 : tiOf Go.Proofs.Tryd.prog 46 = some ⟨6, true, 64, .agg [.bool false, .int .i64 0, .int .i64 0, .int .i64 0, .nils, .int .i64 0], .struct [(0, 4), (1, 3), (2, 3), (3, 3), (4, 44), (5, 3)]⟩ := by kernel_rfl
theorem ti_47 : tiOf Go.Proofs.Tryd.prog 47 = some ⟨1, false, 8, .l (.nilp), .pointer 49⟩ := by kernel_rfl
theorem ti_48 : tiOf Go.Proofs.Tryd.prog 48 = some ⟨4, true, 56, .agg [.str ⟨#[]⟩, .int .i64 0, .int .i64 0, .nils], .struct [(0, 9), (1, 3), (2, 24)]⟩ := by kernel_rfl
theorem ti_49 : tiOf Go.Proofs.Tryd.prog 49 = some ⟨4, true, 56, .agg [.str ⟨#[]⟩, .int .i64 0, .int .i64 0, .nils], .struct [(0, 9), (1, 3), (2, 24)]⟩ := by kernel_rfl
theorem ti_51 : tiOf Go.Proofs.Tryd.prog 51 = some ⟨1, false, 8, .l (.nilf), .func⟩ := by kernel_rfl
theorem ti_53 : tiOf Go.Proofs.Tryd.prog 53 = some ⟨1, false, 8, .l (.nilf), .func⟩ := by kernel_rfl
theorem ti_54 : tiOf Go.Proofs.Tryd.prog 54 = some ⟨1, false, 8, .l (.nilp), .pointer 56⟩ := by kernel_rfl
theorem ti_55 : tiOf Go.Proofs.Tryd.prog 55 = some ⟨4, true, 56, .agg [.str ⟨#[]⟩, .int .i64 0, .nils, .bool false], .struct [(0, 9), (1, 3), (2, 22), (3, 4)]⟩ := by kernel_rfl
theorem ti_56 : tiOf Go.Proofs.Tryd.prog 56 = some ⟨4, true, 56, .agg [.str ⟨#[]⟩, .int .i64 0, .nils, .bool false], .struct [(0, 9), (1, 3), (2, 22), (3, 4)]⟩ := by kernel_rfl
theorem ti_57 : tiOf Go.Proofs.Tryd.prog 57 = some ⟨1, false, 8, .l (.nilf), .func⟩ := by kernel_rfl
theorem ti_58 : tiOf Go.Proofs.Tryd.prog 58 = some ⟨1, false, 8, .l (.nilf), .func⟩ := by kernel_rfl
theorem ti_59 : tiOf Go.Proofs.Tryd.prog 59 = some ⟨1, false, 8, .l (.nilf), .func⟩ := by kernel_rfl
theorem ti_60 : tiOf Go.Proofs.Tryd.prog 60 = some ⟨1, false, 8, .l (.nilf), .func⟩ := by kernel_rfl
theorem ti_61 : tiOf Go.Proofs.Tryd.prog 61 = some ⟨1, false, 24, .l (.nils), .slice 5⟩ := by kernel_rfl
theorem ti_62 : tiOf Go.Proofs.Tryd.prog 62 = some ⟨1, false, 8, .l (.nilf), .func⟩ := by kernel_rfl
theorem ti_63 : tiOf Go.Proofs.Tryd.prog 63 = some ⟨1, false, 8, .l (.nilf), .func⟩ := by kernel_rfl
theorem ti_64 : tiOf Go.Proofs.Tryd.prog 64 = some ⟨1, false, 8, .l (.nilf), .func⟩ := by kernel_rfl
theorem ti_65 : tiOf Go.Proofs.Tryd.prog 65 = some ⟨1, false, 8, .l (.nilp), .pointer 67⟩ := by kernel_rfl
theorem ti_66 : tiOf Go.Proofs.Tryd.prog 66 = some ⟨4, true, 64, .agg [.int .i64 0, .nils, .nils, .int .i64 0], .struct [(0, 24), (2, 37), (3, 3)]⟩ := by kernel_rfl
theorem ti_67 : tiOf Go.Proofs.Tryd.prog 67 = some ⟨4, true, 64, .agg [.int .i64 0, .nils, .nils, .int .i64 0], .struct [(0, 24), (2, 37), (3, 3)]⟩ := by kernel_rfl
theorem ti_68 : tiOf Go.Proofs.Tryd.prog 68 = some ⟨1, false, 8, .l (.nilf), .func⟩ := by kernel_rfl
theorem ti_69 : tiOf Go.Proofs.Tryd.prog 69 = some ⟨4, true, 24, .agg [.int .i64 0, .int .i64 0, .bool false, .bool false], .struct [(0, 3), (1, 3), (2, 4), (3, 4)]⟩ := by kernel_rfl
theorem ti_70 : tiOf Go.Proofs.Tryd.prog 70 = some ⟨4, true, 24, .agg [.int .i64 0, .int .i64 0, .bool false, .bool false], .struct [(0, 3), (1, 3), (2, 4), (3, 4)]⟩ := by kernel_rfl
theorem ti_71 : tiOf Go.Proofs.Tryd.prog 71 = some ⟨1, false, 8, .l (.nilf), .func⟩ := by kernel_rfl
theorem ti_72 : tiOf Go.Proofs.Tryd.prog 72 = some ⟨1, false, 8, .l (.nilf), .func⟩ := by kernel_rfl
theorem ti_74 : tiOf Go.Proofs.Tryd.prog 74 = some ⟨1, false, 8, .l (.nilf), .func⟩ := by kernel_rfl
theorem ti_75 : tiOf Go.Proofs.Tryd.prog 75 = some ⟨1, false, 8, .l (.nilf), .func⟩ := by kernel_rfl
theorem ti_76 : tiOf Go.Proofs.Tryd.prog 76 = some ⟨1, false, 8, .l (.nilf), .func⟩ := by kernel_rfl
theorem ti_77 : tiOf Go.Proofs.Tryd.prog 77 = some ⟨1, false, 8, .l (.nilf), .func⟩ := by kernel_rfl
theorem ti_78 : tiOf Go.Proofs.Tryd.prog 78 = some ⟨2, true, 16, .agg [.int .i64 0, .int .i64 0], .struct [(0, 3), (1, 3)]⟩ := by kernel_rfl
theorem ti_79 : tiOf Go.Proofs.Tryd.prog 79 = some ⟨2, true, 16, .agg [.int .i64 0, .int .i64 0], .struct [(0, 3), (1, 3)]⟩ := by kernel_rfl
theorem ti_80 : tiOf Go.Proofs.Tryd.prog 80 = some ⟨1, false, 8, .l (.nilp), .pointer 82⟩ := by kernel_rfl
theorem ti_81 : tiOf Go.Proofs.Tryd.prog 81 = some ⟨5, true, 88, .agg [.int .i64 0, .nils, .nils, .nils, .bool false], .struct [(0, 24), (2, 22), (3, 37), (4, 4)]⟩ := by kernel_rfl
theorem ti_82 : tiOf Go.Proofs.Tryd.prog 82 = some ⟨5, true, 88, .agg [.int .i64 0, .nils, .nils, .nils, .bool false], .struct [(0, 24), (2, 22), (3, 37), (4, 4)]⟩ := by kernel_rfl
theorem ti_83 : tiOf Go.Proofs.Tryd.prog 83 = some ⟨1, false, 8, .l (.nilf), .func⟩ := by kernel_rfl
theorem ti_84 : tiOf Go.Proofs.Tryd.prog 84 = some ⟨1, false, 8, .l (.nilf), .func⟩ := by kernel_rfl
theorem ti_85 : tiOf Go.Proofs.Tryd.prog 85 = some ⟨1, false, 8, .l (.nilf), .func⟩ := by kernel_rfl
theorem ti_86 : tiOf Go.Proofs.Tryd.prog 86 = some ⟨1, false, 8, .l (.nilf), .func⟩ := by kernel_rfl
theorem ti_87 : tiOf Go.Proofs.Tryd.prog 87 = some ⟨1, false, 8, .l (.nilf), .func⟩ := by kernel_rfl
theorem ti_88 : tiOf Go.Proofs.Tryd.prog 88 = some ⟨1, false, 8, .l (.nilf), .func⟩ := by kernel_rfl
theorem ti_89 : tiOf Go.Proofs.Tryd.prog 89 = some ⟨1, false, 8, .l (.nilf), .func⟩ := by kernel_rfl
theorem ti_91 : tiOf Go.Proofs.Tryd.prog 91 = some ⟨1, false, 8, .l (.nilf), .func⟩ := by kernel_rfl
theorem ti_93 : tiOf Go.Proofs.Tryd.prog 93 = some ⟨1, false, 8, .l (.nilf), .func⟩ := by kernel_rfl
theorem ti_94 : tiOf Go.Proofs.Tryd.prog 94 = some ⟨1, false, 8, .l (.nilf), .func⟩ := by kernel_rfl
theorem ti_95 : tiOf Go.Proofs.Tryd.prog 95 = some ⟨1, false, 8, .l (.nilf), .func⟩ := by kernel_rfl
theorem ti_96 : tiOf Go.Proofs.Tryd.prog 96 = some ⟨1, false, 16, .l (.nili), .iface⟩ := by kernel_rfl
theorem ti_97 : tiOf Go.Proofs.Tryd.prog 97 = some ⟨1, false, 16, .l (.nili), .iface⟩ := by kernel_rfl
theorem ti_99 : tiOf Go.Proofs.Tryd.prog 99 = some ⟨1, false, 8, .l (.nilf), .func⟩ := by kernel_rfl
theorem ti_100 : tiOf Go.Proofs.Tryd.prog 100 = some ⟨1, false, 8, .l (.nilf), .func⟩ := by kernel_rfl
theorem ti_101 : tiOf Go.Proofs.Tryd.prog 101 = some ⟨1, false, 8, .l (.nilf), .func⟩ := by kernel_rfl
theorem ti_102 : tiOf Go.Proofs.Tryd.prog 102 = some ⟨1, false, 8, .l (.nilf), .func⟩ := by kernel_rfl
theorem ti_103 : tiOf Go.Proofs.Tryd.prog 103 = some ⟨1, false, 8, .l (.nilf), .func⟩ := by kernel_rfl
theorem ti_104 : tiOf Go.Proofs.Tryd.prog 104 = some ⟨1, false, 8, .l (.nilf), .func⟩ := by kernel_rfl
theorem ti_105 : tiOf Go.Proofs.Tryd.prog 105 = some ⟨24, true, 24, .agg [.int .u8 0, .int .u8 0, .int .u8 0, .int .u8 0, .int .u8 0, .int .u8 0, .int .u8 0, .int .u8 0, .int .u8 0, .int .u8 0, .int .u8 0, .int .u8 0, .int .u8 0, .int .u8 0, .int .u8 0, .int .u8 0, .int .u8 0, .int .u8 0, .int .u8 0, .int .u8 0, .int .u8 0, .int .u8 0, .int .u8 0, .int .u8 0], .array 24 5⟩ := by kernel_rfl
theorem ti_106 : tiOf Go.Proofs.Tryd.prog 106 = some ⟨1, false, 8, .l (.nilf), .func⟩ := by kernel_rfl
theorem ti_107 : tiOf Go.Proofs.Tryd.prog 107 = some ⟨1, false, 8, .l (.nilf), .func⟩ := by kernel_rfl
theorem ti_109 : tiOf Go.Proofs.Tryd.prog 109 = some ⟨1, false, 8, .l (.nilf), .func⟩ := by kernel_rfl
theorem ti_110 : tiOf Go.Proofs.Tryd.prog 110 = some ⟨1, false, 8, .l (.int .i64 0), .int .i64⟩ := by kernel_rfl
theorem ti_112 : tiOf Go.Proofs.Tryd.prog 112 = some ⟨1, false, 8, .l (.nilf), .func⟩ := by kernel_rfl
theorem ti_113 : tiOf Go.Proofs.Tryd.prog 113 = some ⟨1, false, 8, .l (.nilp), .pointer 127⟩ := by kernel_rfl
theorem ti_114 : tiOf Go.Proofs.Tryd.prog 114 = some ⟨1, false, 8, .l (.nilf), .func⟩ := by kernel_rfl
theorem ti_115 : tiOf Go.Proofs.Tryd.prog 115 = some ⟨1, false, 8, .l (.nilf), .func⟩ := by kernel_rfl
theorem ti_116 : tiOf Go.Proofs.Tryd.prog 116 = some ⟨1, false, 8, .l (.nilf), .func⟩ := by kernel_rfl
theorem ti_117 : tiOf Go.Proofs.Tryd.prog 117 = some ⟨1, false, 8, .l (.nilf), .func⟩ := by kernel_rfl
theorem ti_118 : tiOf Go.Proofs.Tryd.prog 118 = some ⟨20, true, 160, .agg [.int .u64 0, .int .u64 0, .int .u64 0, .int .u64 0, .int .u64 0, .int .u64 0, .int .u64 0, .int .u64 0, .int .u64 0, .int .u64 0, .int .u64 0, .int .u64 0, .int .u64 0, .int .u64 0, .int .u64 0, .int .u64 0, .int .u64 0, .int .u64 0, .int .u64 0, .int .u64 0], .array 20 42⟩ := by kernel_rfl
theorem ti_119 : tiOf Go.Proofs.Tryd.prog 119 = some ⟨1, false, 4, .l (.int .u32 0), .int .u32⟩ := by kernel_rfl
theorem ti_120 : tiOf Go.Proofs.Tryd.prog 120 = some ⟨65, true, 65, .agg [.int .u8 0, .int .u8 0, .int .u8 0, .int .u8 0, .int .u8 0, .int .u8 0, .int .u8 0, .int .u8 0, .int .u8 0, .int .u8 0, .int .u8 0, .int .u8 0, .int .u8 0, .int .u8 0, .int .u8 0, .int .u8 0, .int .u8 0, .int .u8 0, .int .u8 0, .int .u8 0, .int .u8 0, .int .u8 0, .int .u8 0, .int .u8 0, .int .u8 0, .int .u8 0, .int .u8 0, .int .u8 0, .int .u8 0, .int .u8 0, .int .u8 0, .int .u8 0, .int .u8 0, .int .u8 0, .int .u8 0, .int .u8 0, .int .u8 0, .int .u8 0, .int .u8 0, .int .u8 0, .int .u8 0, .int .u8 0, .int .u8 0, .int .u8 0, .int .u8 0, .int .u8 0, .int .u8 0, .int .u8 0, .int .u8 0, .int .u8 0, .int .u8 0, .int .u8 0, .int .u8 0, .int .u8 0, .int .u8 0, .int .u8 0, .int .u8 0, .int .u8 0, .int .u8 0, .int .u8 0, .int .u8 0, .int .u8 0, .int .u8 0, .int .u8 0, .int .u8 0], .array 65 5⟩ := by kernel_rfl
theorem ti_121 : tiOf Go.Proofs.Tryd.prog 121 = some ⟨1, false, 8, .l (.int .u64 0), .int .u64⟩ := by kernel_rfl
theorem ti_122 : tiOf Go.Proofs.Tryd.prog 122 = some ⟨1, false, 8, .l (.nilf), .func⟩ := by kernel_rfl
theorem ti_124 : tiOf Go.Proofs.Tryd.prog 124 = some ⟨1, false, 8, .l (.nilf), .func⟩ := by kernel_rfl
theorem ti_125 : tiOf Go.Proofs.Tryd.prog 125 = some ⟨1, false, 8, .l (.nilf), .func⟩ := by kernel_rfl
theorem ti_126 : tiOf Go.Proofs.Tryd.prog 126 = some ⟨3, true, 48, .agg [.str ⟨#[]⟩, .str ⟨#[]⟩, .nili], .struct [(0, 9), (1, 9), (2, 97)]⟩ := by kernel_rfl
theorem ti_127 : tiOf Go.Proofs.Tryd.prog 127 = some ⟨3, true, 48, .agg [.str ⟨#[]⟩, .str ⟨#[]⟩, .nili], .struct [(0, 9), (1, 9), (2, 97)]⟩ := by kernel_rfl
theorem ti_128 : tiOf Go.Proofs.Tryd.prog 128 = some ⟨1, false, 8, .l (.nilf), .func⟩ := by kernel_rfl
theorem ti_129 : tiOf Go.Proofs.Tryd.prog 129 = some ⟨1, false, 8, .l (.nilf), .func⟩ := by kernel_rfl
theorem ti_130 : tiOf Go.Proofs.Tryd.prog 130 = some ⟨1, false, 8, .l (.nilf), .func⟩ := by kernel_rfl
theorem ti_131 : tiOf Go.Proofs.Tryd.prog 131 = some ⟨1, false, 8, .l (.nilp), .pointer 5⟩ := by kernel_rfl
theorem ti_132 : tiOf Go.Proofs.Tryd.prog 132 = some ⟨1, false, 8, .l (.nilp), .pointer 134⟩ := by kernel_rfl
theorem ti_133 : tiOf Go.Proofs.Tryd.prog 133 = some ⟨1, true, 16, .agg [.str ⟨#[]⟩], .struct [(0, 9)]⟩ := by kernel_rfl
theorem ti_134 : tiOf Go.Proofs.Tryd.prog 134 = some ⟨1, true, 16, .agg [.str ⟨#[]⟩], .struct [(0, 9)]⟩ := by kernel_rfl
theorem ti_135 : tiOf Go.Proofs.Tryd.prog 135 = some ⟨32, true, 32, .agg [.int .u8 0, .int .u8 0, .int .u8 0, .int .u8 0, .int .u8 0, .int .u8 0, .int .u8 0, .int .u8 0, .int .u8 0, .int .u8 0, .int .u8 0, .int .u8 0, .int .u8 0, .int .u8 0, .int .u8 0, .int .u8 0, .int .u8 0, .int .u8 0, .int .u8 0, .int .u8 0, .int .u8 0, .int .u8 0, .int .u8 0, .int .u8 0, .int .u8 0, .int .u8 0, .int .u8 0, .int .u8 0, .int .u8 0, .int .u8 0, .int .u8 0, .int .u8 0], .array 32 5⟩ := by kernel_rfl
theorem ti_136 : tiOf Go.Proofs.Tryd.prog 136 = some ⟨64, true, 64, .agg [.int .u8 0, .int .u8 0, .int .u8 0, .int .u8 0, .int .u8 0, .int .u8 0, .int .u8 0, .int .u8 0, .int .u8 0, .int .u8 0, .int .u8 0, .int .u8 0, .int .u8 0, .int .u8 0, .int .u8 0, .int .u8 0, .int .u8 0, .int .u8 0, .int .u8 0, .int .u8 0, .int .u8 0, .int .u8 0, .int .u8 0, .int .u8 0, .int .u8 0, .int .u8 0, .int .u8 0, .int .u8 0, .int .u8 0, .int .u8 0, .int .u8 0, .int .u8 0, .int .u8 0, .int .u8 0, .int .u8 0, .int .u8 0, .int .u8 0, .int .u8 0, .int .u8 0, .int .u8 0, .int .u8 0, .int .u8 0, .int .u8 0, .int .u8 0, .int .u8 0, .int .u8 0, .int .u8 0, .int .u8 0, .int .u8 0, .int .u8 0, .int .u8 0, .int .u8 0, .int .u8 0, .int .u8 0, .int .u8 0, .int .u8 0, .int .u8 0, .int .u8 0, .int .u8 0, .int .u8 0, .int .u8 0, .int .u8 0, .int .u8 0, .int .u8 0], .array 64 5⟩ := by kernel_rfl
theorem ti_137 : tiOf Go.Proofs.Tryd.prog 137 = some ⟨1, false, 8, .l (.nilf), .func⟩ := by kernel_rfl
theorem ti_138 : tiOf Go.Proofs.Tryd.prog 138 = some ⟨4, true, 40, .agg [.nilp, .nilp, .nilp, .str ⟨#[]⟩], .struct [(0, 17), (1, 17), (2, 17), (3, 9)]⟩ := by kernel_rfl
theorem ti_139 : tiOf Go.Proofs.Tryd.prog 139 = some ⟨4, true, 40, .agg [.nilp, .nilp, .nilp, .str ⟨#[]⟩], .struct [(0, 17), (1, 17), (2, 17), (3, 9)]⟩ := by kernel_rfl
theorem ti_140 : tiOf Go.Proofs.Tryd.prog 140 = some ⟨0, true, 0, .agg [], .array 0 16⟩ := by kernel_rfl
theorem ti_141 : tiOf Go.Proofs.Tryd.prog 141 = some ⟨0, true, 0, .agg [], .struct [(0, 140)]⟩ := by kernel_rfl
theorem ti_142 : tiOf Go.Proofs.Tryd.prog 142 = some ⟨0, true, 0, .agg [], .struct [(0, 140)]⟩ := by kernel_rfl
theorem ti_143 : tiOf Go.Proofs.Tryd.prog 143 = some ⟨1, false, 1, .l (.int .u8 0), .int .u8⟩ := by kernel_rfl
theorem ti_144 : tiOf Go.Proofs.Tryd.prog 144 = some ⟨1, false, 1, .l (.int .u8 0), .int .u8⟩ := by kernel_rfl
theorem ti_145 : tiOf Go.Proofs.Tryd.prog 145 = some ⟨1, false, 8, .l (.nilf), .func⟩ := by kernel_rfl
theorem ti_146 : tiOf Go.Proofs.Tryd.prog 146 = some ⟨1, false, 4, .l (.int .i32 0), .int .i32⟩ := by kernel_rfl
theorem ti_147 : tiOf Go.Proofs.Tryd.prog 147 = some ⟨1, false, 4, .l (.int .i32 0), .int .i32⟩ := by kernel_rfl
theorem ti_148 : tiOf Go.Proofs.Tryd.prog 148 = some ⟨11, true, 48, .agg [.int .u64 0, .int .u64 0, .int .u32 0, .int .u8 0, .int .u8 0, .int .u8 0, .int .u8 0, .nilf, .nilp, .int .i32 0, .int .i32 0], .struct [(0, 12), (1, 12), (2, 119), (3, 143), (4, 5), (5, 5), (6, 144), (7, 145), (8, 131), (9, 146), (10, 147)]⟩ := by kernel_rfl
theorem ti_149 : tiOf Go.Proofs.Tryd.prog 149 = some ⟨11, true, 48, .agg [.int .u64 0, .int .u64 0, .int .u32 0, .int .u8 0, .int .u8 0, .int .u8 0, .int .u8 0, .nilf, .nilp, .int .i32 0, .int .i32 0], .struct [(0, 12), (1, 12), (2, 119), (3, 143), (4, 5), (5, 5), (6, 144), (7, 145), (8, 131), (9, 146), (10, 147)]⟩ := by kernel_rfl
theorem zf_46 : zeroFits Go.Proofs.Tryd.prog 46 = true := by kernel_rfl
theorem zf_3 : zeroFits Go.Proofs.Tryd.prog 3 = true := by kernel_rfl
theorem zf_4 : zeroFits Go.Proofs.Tryd.prog 4 = true := by kernel_rfl
theorem zf_79 : zeroFits Go.Proofs.Tryd.prog 79 = true := by kernel_rfl
theorem zf_5 : zeroFits Go.Proofs.Tryd.prog 5 = true := by kernel_rfl
theorem fe_70 : flatEq Go.Proofs.Tryd.prog 70 4 = true := by kernel_rfl
theorem fe_79 : flatEq Go.Proofs.Tryd.prog 79 2 = true := by kernel_rfl
attribute [go_sem] ti_1 ti_2 ti_3 ti_4 ti_5 ti_6 ti_7 ti_8 ti_9 ti_10 ti_11 ti_12 ti_13 ti_14 ti_15 ti_16 ti_17 ti_18 ti_19 ti_20 ti_21 ti_22 ti_23 ti_24 ti_25 ti_26 ti_27 ti_29 ti_30 ti_31 ti_32 ti_33 ti_34 ti_35 ti_36 ti_37 ti_38 ti_39 ti_41 ti_42 ti_43 ti_44 ti_45 ti_46 ti_47 ti_48 ti_49 ti_51 ti_53 ti_54 ti_55 ti_56 ti_57 ti_58 ti_59 ti_60 ti_61 ti_62 ti_63 ti_64 ti_65 ti_66 ti_67 ti_68 ti_69 ti_70 ti_71 ti_72 ti_74 ti_75 ti_76 ti_77 ti_78 ti_79 ti_80 ti_81 ti_82 ti_83 ti_84 ti_85 ti_86 ti_87 ti_88 ti_89 ti_91 ti_93 ti_94 ti_95 ti_96 ti_97 ti_99 ti_100 ti_101 ti_102 ti_103 ti_104 ti_105 ti_106 ti_107 ti_109 ti_110 ti_112 ti_113 ti_114 ti_115 ti_116 ti_117 ti_118 ti_119 ti_120 ti_121 ti_122 ti_124 ti_125 ti_126 ti_127 ti_128 ti_129 ti_130 ti_131 ti_132 ti_133 ti_134 ti_135 ti_136 ti_137 ti_138 ti_139 ti_140 ti_141 ti_142 ti_143 ti_144 ti_145 ti_146 ti_147 ti_148 ti_149 zf_46 zf_3 zf_4 zf_79 zf_5 fe_70 fe_79
end Go.X
set_option linter.unusedVariables false
set_option maxRecDepth 100000
namespace Go.X
open Go.RowKit
theorem xsP : type_of% (And.intro @vc_skip <| And.intro @vc_ret <| And.intro @vc_exit <| And.intro @vc_cond <| And.intro @vc_block <| And.intro @vc_loop <| And.intro @vc_region <| And.intro @vc_draw <| And.intro @vops_nil <| And.intro @vops_plain' <| And.intro @vops_guard' <| And.intro @vo_move <| And.intro @vo_assign <| And.intro @vo_pick <| And.intro @vo_alloc <| And.intro @vo_box <| And.intro @vo_build <| And.intro @vo_buildSlice <| And.intro @vo_load <| And.intro @vo_store <| And.intro @vo_nilCheck <| And.intro @vo_binOp <| And.intro @vo_unOp <| And.intro @vo_convert <| And.intro @vo_makeFunc <| And.intro @vo_makeSlice <| And.intro @vo_makeMap <| And.intro @vo_slice <| And.intro @vo_fieldAddr <| And.intro @vo_field <| And.intro @vo_indexAddr <| And.intro @vo_index <| And.intro @vo_lookup <| And.intro @vo_mapUpdate <| And.intro @vo_extract <| And.intro @vo_call <| And.intro @vo_calld <| And.intro @vo_built <| And.intro @seqQ_normal <| And.intro @seqQ_exit <| And.intro @seqQ_ret <| And.intro @blockQ_normal <| And.intro @blockQ_exit <| And.intro @blockQ_ret <| And.intro @retQ_normal' <| And.intro @retQ_ret' <| And.intro @vdr_nil <| And.intro @vdr_plain <| And.intro @vdr_guard <| And.intro @do_move <| And.intro @do_assign <| And.intro @do_pick <| And.intro @do_build <| And.intro @do_load <| And.intro @do_nilCheck <| And.intro @do_binOp <| And.intro @do_unOp <| And.intro @do_convert <| And.intro @do_slice <| And.intro @do_fieldAddr <| And.intro @do_field <| And.intro @do_indexAddr <| And.intro @do_index <| And.intro @do_lookup <| And.intro @do_extract <| And.intro @do_call <| And.intro @do_min <| And.intro @do_max <| And.intro @wo_min <| And.intro @wo_max <| And.intro @do_len <| And.intro @vdw_nil <| And.intro @vdw_plain <| And.intro @vdw_guard <| And.intro @wo_move <| And.intro @wo_assign <| And.intro @wo_pick <| And.intro @wo_alloc <| And.intro @wo_box <| And.intro @wo_build <| And.intro @wo_buildSlice <| And.intro @wo_load <| And.intro @wo_store <| And.intro @wo_nilCheck <| And.intro @wo_binOp <| And.intro @wo_unOp <| And.intro @wo_convert <| And.intro @wo_makeSlice <| And.intro @wo_slice <| And.intro @wo_fieldAddr <| And.intro @wo_field <| And.intro @wo_indexAddr <| And.intro @wo_index <| And.intro @wo_lookup <| And.intro @wo_extract <| And.intro @wo_call <| And.intro @wo_len <| And.intro @wo_append <| And.intro @bk_len <| And.intro @bk_append <| And.intro @bk_clear <| And.intro @bk_delete <| And.intro @bk_cap <| And.intro @bk_min <| @bk_max) := And.intro @vc_skip <| And.intro @vc_ret <| And.intro @vc_exit <| And.intro @vc_cond <| And.intro @vc_block <| And.intro @vc_loop <| And.intro @vc_region <| And.intro @vc_draw <| And.intro @vops_nil <| And.intro @vops_plain' <| And.intro @vops_guard' <| And.intro @vo_move <| And.intro @vo_assign <| And.intro @vo_pick <| And.intro @vo_alloc <| And.intro @vo_box <| And.intro @vo_build <| And.intro @vo_buildSlice <| And.intro @vo_load <| And.intro @vo_store <| And.intro @vo_nilCheck <| And.intro @vo_binOp <| And.intro @vo_unOp <| And.intro @vo_convert <| And.intro @vo_makeFunc <| And.intro @vo_makeSlice <| And.intro @vo_makeMap <| And.intro @vo_slice <| And.intro @vo_fieldAddr <| And.intro @vo_field <| And.intro @vo_indexAddr <| And.intro @vo_index <| And.intro @vo_lookup <| And.intro @vo_mapUpdate <| And.intro @vo_extract <| And.intro @vo_call <| And.intro @vo_calld <| And.intro @vo_built <| And.intro @seqQ_normal <| And.intro @seqQ_exit <| And.intro @seqQ_ret <| And.intro @blockQ_normal <| And.intro @blockQ_exit <| And.intro @blockQ_ret <| And.intro @retQ_normal' <| And.intro @retQ_ret' <| And.intro @vdr_nil <| And.intro @vdr_plain <| And.intro @vdr_guard <| And.intro @do_move <| And.intro @do_assign <| And.intro @do_pick <| And.intro @do_build <| And.intro @do_load <| And.intro @do_nilCheck <| And.intro @do_binOp <| And.intro @do_unOp <| And.intro @do_convert <| And.intro @do_slice <| And.intro @do_fieldAddr <| And.intro @do_field <| And.intro @do_indexAddr <| And.intro @do_index <| And.intro @do_lookup <| And.intro @do_extract <| And.intro @do_call <| And.intro @do_min <| And.intro @do_max <| And.intro @wo_min <| And.intro @wo_max <| And.intro @do_len <| And.intro @vdw_nil <| And.intro @vdw_plain <| And.intro @vdw_guard <| And.intro @wo_move <| And.intro @wo_assign <| And.intro @wo_pick <| And.intro @wo_alloc <| And.intro @wo_box <| And.intro @wo_build <| And.intro @wo_buildSlice <| And.intro @wo_load <| And.intro @wo_store <| And.intro @wo_nilCheck <| And.intro @wo_binOp <| And.intro @wo_unOp <| And.intro @wo_convert <| And.intro @wo_makeSlice <| And.intro @wo_slice <| And.intro @wo_fieldAddr <| And.intro @wo_field <| And.intro @wo_indexAddr <| And.intro @wo_index <| And.intro @wo_lookup <| And.intro @wo_extract <| And.intro @wo_call <| And.intro @wo_len <| And.intro @wo_append <| And.intro @bk_len <| And.intro @bk_append <| And.intro @bk_clear <| And.intro @bk_delete <| And.intro @bk_cap <| And.intro @bk_min <| @bk_max
theorem xsQ : type_of% (And.intro @minI_int <| And.intro @maxI_int <| And.intro @updE_nil <| And.intro @updE_some <| And.intro @updE_none <| And.intro @delL_nil <| And.intro @delL_cons <| And.intro @dOf_n <| And.intro @dOf_0 <| And.intro @dOf_s <| And.intro @isNilS_tmp <| And.intro @isNilS_int <| And.intro @isNilS_bool <| And.intro @optI_some <| And.intro @optI_none <| And.intro @condI_true <| And.intro @condI_false <| And.intro @gI_tt <| And.intro @gI_ff <| And.intro @gI_tf <| And.intro @gI_ft <| And.intro @gI_skip <| And.intro @valI_l <| And.intro @valI_agg <| And.intro @valI_tup <| And.intro @valI_any <| And.intro @dynI_clo <| And.intro @pickI_bool <| And.intro @nilSI_ms <| And.intro @eql_agg_t <| And.intro @neq_agg_t <| And.intro @eql_bool_t <| And.intro @neq_bool_t <| And.intro @eql_str_t <| And.intro @neq_str_t <| And.intro @eql_str_c <| And.intro @neq_str_c <| And.intro @isNilS_str <| And.intro @eql_ptr <| And.intro @neq_ptr <| And.intro @eql_rp <| And.intro @eql_nil2 <| And.intro @eql_nili_n <| And.intro @eql_nili_t <| And.intro @isNilS_nili <| And.intro @eql_nils <| And.intro @neq_nils <| And.intro @pickA_true <| And.intro @pickA_false <| And.intro @pickA_and <| And.intro @pickA_or <| And.intro @upd_app <| And.intro @updO_some <| And.intro @updO_none <| And.intro @ev_tmp <| And.intro @ev_const <| And.intro @ev_func <| And.intro @absV_int <| And.intro @absV_bool <| And.intro @absV_string <| And.intro @absV_nilp <| And.intro @absV_nils <| And.intro @absV_nilm <| And.intro @absV_nilf <| And.intro @absV_nili <| And.intro @absV_agg <| And.intro @argFr_0 <| And.intro @argFr_s <| And.intro @avCells_l <| And.intro @avCells_agg <| And.intro @packV_l <| And.intro @packV_agg <| And.intro @ia_pr <| And.intro @ia_opn <| And.intro @ia_ans <| And.intro @ia_evt <| And.intro @ia_nd <| And.intro @ia_cl <| And.intro @ia_i <| And.intro @ia_ops <| And.intro @ia_ms <| And.intro @ia_ptr <| And.intro @rg_pr <| And.intro @rg_opn <| And.intro @rg_ans <| And.intro @rg_evt <| And.intro @rg_nd <| And.intro @rg_b <| And.intro @rg_cl <| And.intro @rg_i <| And.intro @rg_ops <| And.intro @set_get_map <| And.intro @or_true <| And.intro @true_or <| And.intro @and_false <| And.intro @false_and <| And.intro @row_pr <| And.intro @row_opn <| And.intro @row_ans <| And.intro @row_evt <| And.intro @row_nd <| And.intro @row_b <| And.intro @row_cl <| And.intro @row_i <| And.intro @row_ops <| And.intro @row_pol <| And.intro @row_scr <| And.intro @toNat_pred <| And.intro @toNat_succ <| And.intro @fillA_nil <| And.intro @fillA_cons <| And.intro @chunk_zero <| And.intro @chunk_succ <| And.intro @binI_int <| And.intro @binI_shr <| And.intro @binI_shl <| And.intro @ar_and <| And.intro @ar_or <| And.intro @ar_xor <| And.intro @ar_shl <| And.intro @ar_shr <| And.intro @ar_add <| And.intro @ar_sub <| And.intro @ar_mul <| And.intro @ar_eql <| And.intro @ar_neq <| And.intro @ar_lss <| And.intro @ar_leq <| And.intro @ar_gtr <| And.intro @ar_geq <| And.intro @wrap_in <| And.intro @Mem.set_eq <| And.intro @Mem.set_ne <| And.intro @Mem.del_eq <| And.intro @Mem.del_ne <| And.intro @Mem.set_set <| And.intro @Bool.and_true <| And.intro @Bool.true_and <| And.intro @Bool.and_self <| And.intro @Bool.or_true <| And.intro @Bool.true_or <| And.intro @Bool.or_false <| And.intro @Bool.false_or <| And.intro @Bool.and_false <| And.intro @Bool.false_and <| And.intro @Bool.or_self <| And.intro @Bool.not_true <| And.intro @Bool.not_false <| And.intro @not_true_eq_false <| And.intro @not_false_eq_true <| And.intro @and_true <| And.intro @true_and <| And.intro @and_self <| And.intro @false_imp_iff <| And.intro @Nat.le_refl <| And.intro @Nat.zero_le <| And.intro @Nat.add_zero <| And.intro @Nat.zero_add <| And.intro @Int.toNat_natCast <| And.intro @Int.toNat_zero <| And.intro @decide_true <| And.intro @decide_false <| And.intro @Nat.succ_eq_add_one <| And.intro @Nat.zero_mul <| And.intro @Nat.mul_zero <| And.intro @Nat.one_mul <| And.intro @Nat.mul_one <| And.intro @Nat.sub_zero <| And.intro @Nat.sub_self <| @Bool.false_eq_true) := And.intro @minI_int <| And.intro @maxI_int <| And.intro @updE_nil <| And.intro @updE_some <| And.intro @updE_none <| And.intro @delL_nil <| And.intro @delL_cons <| And.intro @dOf_n <| And.intro @dOf_0 <| And.intro @dOf_s <| And.intro @isNilS_tmp <| And.intro @isNilS_int <| And.intro @isNilS_bool <| And.intro @optI_some <| And.intro @optI_none <| And.intro @condI_true <| And.intro @condI_false <| And.intro @gI_tt <| And.intro @gI_ff <| And.intro @gI_tf <| And.intro @gI_ft <| And.intro @gI_skip <| And.intro @valI_l <| And.intro @valI_agg <| And.intro @valI_tup <| And.intro @valI_any <| And.intro @dynI_clo <| And.intro @pickI_bool <| And.intro @nilSI_ms <| And.intro @eql_agg_t <| And.intro @neq_agg_t <| And.intro @eql_bool_t <| And.intro @neq_bool_t <| And.intro @eql_str_t <| And.intro @neq_str_t <| And.intro @eql_str_c <| And.intro @neq_str_c <| And.intro @isNilS_str <| And.intro @eql_ptr <| And.intro @neq_ptr <| And.intro @eql_rp <| And.intro @eql_nil2 <| And.intro @eql_nili_n <| And.intro @eql_nili_t <| And.intro @isNilS_nili <| And.intro @eql_nils <| And.intro @neq_nils <| And.intro @pickA_true <| And.intro @pickA_false <| And.intro @pickA_and <| And.intro @pickA_or <| And.intro @upd_app <| And.intro @updO_some <| And.intro @updO_none <| And.intro @ev_tmp <| And.intro @ev_const <| And.intro @ev_func <| And.intro @absV_int <| And.intro @absV_bool <| And.intro @absV_string <| And.intro @absV_nilp <| And.intro @absV_nils <| And.intro @absV_nilm <| And.intro @absV_nilf <| And.intro @absV_nili <| And.intro @absV_agg <| And.intro @argFr_0 <| And.intro @argFr_s <| And.intro @avCells_l <| And.intro @avCells_agg <| And.intro @packV_l <| And.intro @packV_agg <| And.intro @ia_pr <| And.intro @ia_opn <| And.intro @ia_ans <| And.intro @ia_evt <| And.intro @ia_nd <| And.intro @ia_cl <| And.intro @ia_i <| And.intro @ia_ops <| And.intro @ia_ms <| And.intro @ia_ptr <| And.intro @rg_pr <| And.intro @rg_opn <| And.intro @rg_ans <| And.intro @rg_evt <| And.intro @rg_nd <| And.intro @rg_b <| And.intro @rg_cl <| And.intro @rg_i <| And.intro @rg_ops <| And.intro @set_get_map <| And.intro @or_true <| And.intro @true_or <| And.intro @and_false <| And.intro @false_and <| And.intro @row_pr <| And.intro @row_opn <| And.intro @row_ans <| And.intro @row_evt <| And.intro @row_nd <| And.intro @row_b <| And.intro @row_cl <| And.intro @row_i <| And.intro @row_ops <| And.intro @row_pol <| And.intro @row_scr <| And.intro @toNat_pred <| And.intro @toNat_succ <| And.intro @fillA_nil <| And.intro @fillA_cons <| And.intro @chunk_zero <| And.intro @chunk_succ <| And.intro @binI_int <| And.intro @binI_shr <| And.intro @binI_shl <| And.intro @ar_and <| And.intro @ar_or <| And.intro @ar_xor <| And.intro @ar_shl <| And.intro @ar_shr <| And.intro @ar_add <| And.intro @ar_sub <| And.intro @ar_mul <| And.intro @ar_eql <| And.intro @ar_neq <| And.intro @ar_lss <| And.intro @ar_leq <| And.intro @ar_gtr <| And.intro @ar_geq <| And.intro @wrap_in <| And.intro @Mem.set_eq <| And.intro @Mem.set_ne <| And.intro @Mem.del_eq <| And.intro @Mem.del_ne <| And.intro @Mem.set_set <| And.intro @Bool.and_true <| And.intro @Bool.true_and <| And.intro @Bool.and_self <| And.intro @Bool.or_true <| And.intro @Bool.true_or <| And.intro @Bool.or_false <| And.intro @Bool.false_or <| And.intro @Bool.and_false <| And.intro @Bool.false_and <| And.intro @Bool.or_self <| And.intro @Bool.not_true <| And.intro @Bool.not_false <| And.intro @not_true_eq_false <| And.intro @not_false_eq_true <| And.intro @and_true <| And.intro @true_and <| And.intro @and_self <| And.intro @false_imp_iff <| And.intro @Nat.le_refl <| And.intro @Nat.zero_le <| And.intro @Nat.add_zero <| And.intro @Nat.zero_add <| And.intro @Int.toNat_natCast <| And.intro @Int.toNat_zero <| And.intro @decide_true <| And.intro @decide_false <| And.intro @Nat.succ_eq_add_one <| And.intro @Nat.zero_mul <| And.intro @Nat.mul_zero <| And.intro @Nat.one_mul <| And.intro @Nat.mul_one <| And.intro @Nat.sub_zero <| And.intro @Nat.sub_self <| @Bool.false_eq_true
theorem xsR : type_of% (And.intro @List.set_set.{0} <| And.intro @List.length_map.{0, 0} <| And.intro @List.map_cons.{0, 0} <| And.intro @List.map_nil.{0, 0} <| And.intro @List.length_cons.{0} <| And.intro @List.length_nil.{0} <| And.intro @List.getElem?_cons_zero.{0} <| And.intro @List.getElem?_cons_succ.{0} <| And.intro @List.getElem?_nil.{0} <| And.intro @List.drop_zero.{0} <| And.intro @List.drop_succ_cons.{0} <| And.intro @List.drop_nil.{0} <| And.intro @List.take_succ_cons.{0} <| And.intro @List.take_zero.{0} <| And.intro @List.take_nil.{0} <| And.intro @List.append_nil.{0} <| And.intro @List.nil_append.{0} <| And.intro @List.cons_append.{0} <| And.intro @List.set_cons_zero.{0} <| And.intro @List.set_cons_succ.{0} <| And.intro @List.head?_cons.{0} <| And.intro @List.all_cons.{0} <| And.intro @List.all_nil.{0} <| And.intro @List.replicate_zero.{0} <| And.intro @List.replicate_succ.{0} <| And.intro @List.flatten_cons.{0} <| And.intro @List.flatten_nil.{0} <| And.intro @Option.map_some.{0, 0} <| And.intro @Option.map_none.{0, 0} <| And.intro @Option.bind_some.{0, 0} <| And.intro @Option.bind_none.{0, 0} <| And.intro @Option.some.injEq.{0} <| And.intro @if_true.{0} <| And.intro @if_false.{0} <| And.intro @ite_true.{0} <| @ite_false.{0}) := And.intro @List.set_set.{0} <| And.intro @List.length_map.{0, 0} <| And.intro @List.map_cons.{0, 0} <| And.intro @List.map_nil.{0, 0} <| And.intro @List.length_cons.{0} <| And.intro @List.length_nil.{0} <| And.intro @List.getElem?_cons_zero.{0} <| And.intro @List.getElem?_cons_succ.{0} <| And.intro @List.getElem?_nil.{0} <| And.intro @List.drop_zero.{0} <| And.intro @List.drop_succ_cons.{0} <| And.intro @List.drop_nil.{0} <| And.intro @List.take_succ_cons.{0} <| And.intro @List.take_zero.{0} <| And.intro @List.take_nil.{0} <| And.intro @List.append_nil.{0} <| And.intro @List.nil_append.{0} <| And.intro @List.cons_append.{0} <| And.intro @List.set_cons_zero.{0} <| And.intro @List.set_cons_succ.{0} <| And.intro @List.head?_cons.{0} <| And.intro @List.all_cons.{0} <| And.intro @List.all_nil.{0} <| And.intro @List.replicate_zero.{0} <| And.intro @List.replicate_succ.{0} <| And.intro @List.flatten_cons.{0} <| And.intro @List.flatten_nil.{0} <| And.intro @Option.map_some.{0, 0} <| And.intro @Option.map_none.{0, 0} <| And.intro @Option.bind_some.{0, 0} <| And.intro @Option.bind_none.{0, 0} <| And.intro @Option.some.injEq.{0} <| And.intro @if_true.{0} <| And.intro @if_false.{0} <| And.intro @ite_true.{0} <| @ite_false.{0}
theorem xsD : type_of% (And.intro @tch.eq_1 <| And.intro @tch.eq_2 <| And.intro @tIn.eq_1 <| And.intro @tIn.eq_2 <| And.intro @tL.eq_1 <| And.intro @tL.eq_2 <| And.intro @idsOf.eq_1 <| And.intro @idsOf.eq_2 <| And.intro @storeE.eq_def <| And.intro @eqY.eq_def <| And.intro @eqA.eq_def <| And.intro @fitC.eq_1 <| And.intro @fitC.eq_2 <| And.intro @fitL.eq_def <| And.intro @eqCells.eq_1 <| And.intro @eqCells.eq_2 <| And.intro @eqL.eq_def <| And.intro @isNilS.eq_def <| And.intro @absL.eq_def <| And.intro @loadA.eq_def <| And.intro @storeA.eq_def <| And.intro @fieldAddrA.eq_def <| And.intro @lenA.eq_def <| And.intro @sliceA.eq_def <| And.intro @boundA.eq_def <| And.intro @buildA.eq_def <| And.intro @placesOf.eq_1 <| And.intro @placesOf.eq_2 <| And.intro @overw.eq_def <| And.intro @buildSliceA.eq_def <| And.intro @makeSliceA.eq_def <| And.intro @clearA.eq_def <| And.intro @unA.eq_def <| And.intro @convM.eq_def <| And.intro @convA.eq_def <| And.intro @extractA.eq_def <| And.intro @fieldA.eq_def <| And.intro @indexA.eq_def <| And.intro @nilChk.eq_def <| And.intro @capsA.eq_1 <| And.intro @capsA.eq_2 <| And.intro @retA.eq_def <| And.intro @retA1.eq_def <| And.intro @retL.eq_1 <| And.intro @retL.eq_2 <| And.intro @rowOf.eq_def <| And.intro @srcRows.eq_def <| And.intro @gslot.eq_def <| @Value.oneCell'.eq_def) := And.intro @tch.eq_1 <| And.intro @tch.eq_2 <| And.intro @tIn.eq_1 <| And.intro @tIn.eq_2 <| And.intro @tL.eq_1 <| And.intro @tL.eq_2 <| And.intro @idsOf.eq_1 <| And.intro @idsOf.eq_2 <| And.intro @storeE.eq_def <| And.intro @eqY.eq_def <| And.intro @eqA.eq_def <| And.intro @fitC.eq_1 <| And.intro @fitC.eq_2 <| And.intro @fitL.eq_def <| And.intro @eqCells.eq_1 <| And.intro @eqCells.eq_2 <| And.intro @eqL.eq_def <| And.intro @isNilS.eq_def <| And.intro @absL.eq_def <| And.intro @loadA.eq_def <| And.intro @storeA.eq_def <| And.intro @fieldAddrA.eq_def <| And.intro @lenA.eq_def <| And.intro @sliceA.eq_def <| And.intro @boundA.eq_def <| And.intro @buildA.eq_def <| And.intro @placesOf.eq_1 <| And.intro @placesOf.eq_2 <| And.intro @overw.eq_def <| And.intro @buildSliceA.eq_def <| And.intro @makeSliceA.eq_def <| And.intro @clearA.eq_def <| And.intro @unA.eq_def <| And.intro @convM.eq_def <| And.intro @convA.eq_def <| And.intro @extractA.eq_def <| And.intro @fieldA.eq_def <| And.intro @indexA.eq_def <| And.intro @nilChk.eq_def <| And.intro @capsA.eq_1 <| And.intro @capsA.eq_2 <| And.intro @retA.eq_def <| And.intro @retA1.eq_def <| And.intro @retL.eq_1 <| And.intro @retL.eq_2 <| And.intro @rowOf.eq_def <| And.intro @srcRows.eq_def <| And.intro @gslot.eq_def <| @Value.oneCell'.eq_def
theorem xsT : type_of% (And.intro @ti_1 <| And.intro @ti_2 <| And.intro @ti_3 <| And.intro @ti_4 <| And.intro @ti_5 <| And.intro @ti_6 <| And.intro @ti_7 <| And.intro @ti_8 <| And.intro @ti_9 <| And.intro @ti_10 <| And.intro @ti_11 <| And.intro @ti_12 <| And.intro @ti_13 <| And.intro @ti_14 <| And.intro @ti_15 <| And.intro @ti_16 <| And.intro @ti_17 <| And.intro @ti_18 <| And.intro @ti_19 <| And.intro @ti_20 <| And.intro @ti_21 <| And.intro @ti_22 <| And.intro @ti_23 <| And.intro @ti_24 <| And.intro @ti_25 <| And.intro @ti_26 <| And.intro @ti_27 <| And.intro @ti_29 <| And.intro @ti_30 <| And.intro @ti_31 <| And.intro @ti_32 <| And.intro @ti_33 <| And.intro @ti_34 <| And.intro @ti_35 <| And.intro @ti_36 <| And.intro @ti_37 <| And.intro @ti_38 <| And.intro @ti_39 <| And.intro @ti_41 <| And.intro @ti_42 <| And.intro @ti_43 <| And.intro @ti_44 <| And.intro @ti_45 <| And.intro @ti_46 <| And.intro @ti_47 <| And.intro @ti_48 <| And.intro @ti_49 <| And.intro @ti_51 <| And.intro @ti_53 <| And.intro @ti_54 <| And.intro @ti_55 <| And.intro @ti_56 <| And.intro @ti_57 <| And.intro @ti_58 <| And.intro @ti_59 <| And.intro @ti_60 <| And.intro @ti_61 <| And.intro @ti_62 <| And.intro @ti_63 <| And.intro @ti_64 <| And.intro @ti_65 <| And.intro @ti_66 <| And.intro @ti_67 <| And.intro @ti_68 <| And.intro @ti_69 <| And.intro @ti_70 <| And.intro @ti_71 <| And.intro @ti_72 <| And.intro @ti_74 <| And.intro @ti_75 <| And.intro @ti_76 <| And.intro @ti_77 <| And.intro @ti_78 <| And.intro @ti_79 <| And.intro @ti_80 <| And.intro @ti_81 <| And.intro @ti_82 <| And.intro @ti_83 <| And.intro @ti_84 <| And.intro @ti_85 <| And.intro @ti_86 <| And.intro @ti_87 <| And.intro @ti_88 <| And.intro @ti_89 <| And.intro @ti_91 <| And.intro @ti_93 <| And.intro @ti_94 <| And.intro @ti_95 <| And.intro @ti_96 <| And.intro @ti_97 <| And.intro @ti_99 <| And.intro @ti_100 <| And.intro @ti_101 <| And.intro @ti_102 <| And.intro @ti_103 <| And.intro @ti_104 <| And.intro @ti_105 <| And.intro @ti_106 <| And.intro @ti_107 <| And.intro @ti_109 <| And.intro @ti_110 <| And.intro @ti_112 <| And.intro @ti_113 <| And.intro @ti_114 <| And.intro @ti_115 <| And.intro @ti_116 <| And.intro @ti_117 <| And.intro @ti_118 <| And.intro @ti_119 <| And.intro @ti_120 <| And.intro @ti_121 <| And.intro @ti_122 <| And.intro @ti_124 <| And.intro @ti_125 <| And.intro @ti_126 <| And.intro @ti_127 <| And.intro @ti_128 <| And.intro @ti_129 <| And.intro @ti_130 <| And.intro @ti_131 <| And.intro @ti_132 <| And.intro @ti_133 <| And.intro @ti_134 <| And.intro @ti_135 <| And.intro @ti_136 <| And.intro @ti_137 <| And.intro @ti_138 <| And.intro @ti_139 <| And.intro @ti_140 <| And.intro @ti_141 <| And.intro @ti_142 <| And.intro @ti_143 <| And.intro @ti_144 <| And.intro @ti_145 <| And.intro @ti_146 <| And.intro @ti_147 <| And.intro @ti_148 <| And.intro @ti_149 <| And.intro @zf_46 <| And.intro @zf_3 <| And.intro @zf_4 <| And.intro @zf_79 <| And.intro @zf_5 <| And.intro @fe_70 <| @fe_79) := And.intro @ti_1 <| And.intro @ti_2 <| And.intro @ti_3 <| And.intro @ti_4 <| And.intro @ti_5 <| And.intro @ti_6 <| And.intro @ti_7 <| And.intro @ti_8 <| And.intro @ti_9 <| And.intro @ti_10 <| And.intro @ti_11 <| And.intro @ti_12 <| And.intro @ti_13 <| And.intro @ti_14 <| And.intro @ti_15 <| And.intro @ti_16 <| And.intro @ti_17 <| And.intro @ti_18 <| And.intro @ti_19 <| And.intro @ti_20 <| And.intro @ti_21 <| And.intro @ti_22 <| And.intro @ti_23 <| And.intro @ti_24 <| And.intro @ti_25 <| And.intro @ti_26 <| And.intro @ti_27 <| And.intro @ti_29 <| And.intro @ti_30 <| And.intro @ti_31 <| And.intro @ti_32 <| And.intro @ti_33 <| And.intro @ti_34 <| And.intro @ti_35 <| And.intro @ti_36 <| And.intro @ti_37 <| And.intro @ti_38 <| And.intro @ti_39 <| And.intro @ti_41 <| And.intro @ti_42 <| And.intro @ti_43 <| And.intro @ti_44 <| And.intro @ti_45 <| And.intro @ti_46 <| And.intro @ti_47 <| And.intro @ti_48 <| And.intro @ti_49 <| And.intro @ti_51 <| And.intro @ti_53 <| And.intro @ti_54 <| And.intro @ti_55 <| And.intro @ti_56 <| And.intro @ti_57 <| And.intro @ti_58 <| And.intro @ti_59 <| And.intro @ti_60 <| And.intro @ti_61 <| And.intro @ti_62 <| And.intro @ti_63 <| And.intro @ti_64 <| And.intro @ti_65 <| And.intro @ti_66 <| And.intro @ti_67 <| And.intro @ti_68 <| And.intro @ti_69 <| And.intro @ti_70 <| And.intro @ti_71 <| And.intro @ti_72 <| And.intro @ti_74 <| And.intro @ti_75 <| And.intro @ti_76 <| And.intro @ti_77 <| And.intro @ti_78 <| And.intro @ti_79 <| And.intro @ti_80 <| And.intro @ti_81 <| And.intro @ti_82 <| And.intro @ti_83 <| And.intro @ti_84 <| And.intro @ti_85 <| And.intro @ti_86 <| And.intro @ti_87 <| And.intro @ti_88 <| And.intro @ti_89 <| And.intro @ti_91 <| And.intro @ti_93 <| And.intro @ti_94 <| And.intro @ti_95 <| And.intro @ti_96 <| And.intro @ti_97 <| And.intro @ti_99 <| And.intro @ti_100 <| And.intro @ti_101 <| And.intro @ti_102 <| And.intro @ti_103 <| And.intro @ti_104 <| And.intro @ti_105 <| And.intro @ti_106 <| And.intro @ti_107 <| And.intro @ti_109 <| And.intro @ti_110 <| And.intro @ti_112 <| And.intro @ti_113 <| And.intro @ti_114 <| And.intro @ti_115 <| And.intro @ti_116 <| And.intro @ti_117 <| And.intro @ti_118 <| And.intro @ti_119 <| And.intro @ti_120 <| And.intro @ti_121 <| And.intro @ti_122 <| And.intro @ti_124 <| And.intro @ti_125 <| And.intro @ti_126 <| And.intro @ti_127 <| And.intro @ti_128 <| And.intro @ti_129 <| And.intro @ti_130 <| And.intro @ti_131 <| And.intro @ti_132 <| And.intro @ti_133 <| And.intro @ti_134 <| And.intro @ti_135 <| And.intro @ti_136 <| And.intro @ti_137 <| And.intro @ti_138 <| And.intro @ti_139 <| And.intro @ti_140 <| And.intro @ti_141 <| And.intro @ti_142 <| And.intro @ti_143 <| And.intro @ti_144 <| And.intro @ti_145 <| And.intro @ti_146 <| And.intro @ti_147 <| And.intro @ti_148 <| And.intro @ti_149 <| And.intro @zf_46 <| And.intro @zf_3 <| And.intro @zf_4 <| And.intro @zf_79 <| And.intro @zf_5 <| And.intro @fe_70 <| @fe_79
end Go.X
set_option linter.unusedVariables false
set_option linter.unusedSimpArgs false
set_option maxRecDepth 100000
namespace Go.X
open Go.Proofs.Tryd (prog)
/-- Keys rise. -/
def Rises (l : List Pr) : Prop := ∀ j : Nat, 1 ≤ j → j < l.length → (l.getD (j - 1) default).key < (l.getD j default).key
theorem mixed : Go.Proofs.Tryd.prog.follows .mixedOrders = true := by kernel_rfl
theorem may_spec (l : List Pr) (hl : l.length ≤ 4611686018427387904) (M : Mem) : XCalls Go.Proofs.Tryd.prog 50 [.l (.sl (l.map Pr.row))] M fun r M' => r = .l (.bool (bof (Rises l))) ∧ M' = M := by
  refine xcalls_intro (rs := [.tmp 2]) Go.Proofs.Tryd.func50 rfl (by kernel_rfl) rfl rfl (by kernel_rfl) (by simp) ?_
  simp -implicitDefEqProofs (maxSteps := 1000000) (disch := omega) only [↓xsP, ↓vc_seq, xsQ, xsT, xsR, xsD, ↓reduceIte, reduceCtorEq, eq_self, ne_eq, imp_self, forall_const, Nat.reduceEqDiff, Nat.reduceAdd, Nat.reduceSub, Nat.reduceMul, Nat.reduceLT, Nat.reduceLeDiff, Nat.reduceBEq, Nat.reduceDiv, Nat.reduceMod, Int.reduceToNat, Int.reduceNeg, Int.reduceAdd, Int.reduceSub, Int.reduceMul, Int.reduceEq, Int.reduceNe, Int.reduceLT, Int.reduceLE, Int.reduceGT, Int.reduceGE]
  refine loopI_of (xloop (by kernel_rfl) (fun k fr M' => ∃ i : Nat, 1 ≤ i ∧ k = l.length - i ∧ fr 0 = .l (.sl (l.map Pr.row)) ∧ fr 3 = .l (.int .i64 i) ∧ M' = M ∧ ∀ j, 1 ≤ j → j < i → j < l.length → (l.getD (j-1) default).key < (l.getD j default).key) (l.length - 1) ?_ ?_)
  · refine ⟨1, Nat.le_refl _, rfl, by simp -implicitDefEqProofs (maxSteps := 1000000) (disch := omega) only [↓xsP, ↓vc_seq, xsQ, xsT, xsR, xsD, ↓reduceIte, reduceCtorEq, eq_self, ne_eq, imp_self, forall_const, Nat.reduceEqDiff, Nat.reduceAdd, Nat.reduceSub, Nat.reduceMul, Nat.reduceLT, Nat.reduceLeDiff, Nat.reduceBEq, Nat.reduceDiv, Nat.reduceMod, Int.reduceToNat, Int.reduceNeg, Int.reduceAdd, Int.reduceSub, Int.reduceMul, Int.reduceEq, Int.reduceNe, Int.reduceLT, Int.reduceLE, Int.reduceGT, Int.reduceGE], by simp -implicitDefEqProofs (maxSteps := 1000000) (disch := omega) only [↓xsP, ↓vc_seq, xsQ, xsT, xsR, xsD, ↓reduceIte, reduceCtorEq, eq_self, ne_eq, imp_self, forall_const, Nat.reduceEqDiff, Nat.reduceAdd, Nat.reduceSub, Nat.reduceMul, Nat.reduceLT, Nat.reduceLeDiff, Nat.reduceBEq, Nat.reduceDiv, Nat.reduceMod, Int.reduceToNat, Int.reduceNeg, Int.reduceAdd, Int.reduceSub, Int.reduceMul, Int.reduceEq, Int.reduceNe, Int.reduceLT, Int.reduceLE, Int.reduceGT, Int.reduceGE, Int.cast_ofNat_Int], rfl, fun j h1 h2 => by omega⟩
  · rintro k fr M' ⟨i, hi, rfl, h0, h3, rfl, hr⟩
    simp -implicitDefEqProofs (maxSteps := 1000000) (disch := omega) only [↓xsP, ↓vc_seq, xsQ, xsT, xsR, xsD, ↓reduceIte, reduceCtorEq, eq_self, ne_eq, imp_self, forall_const, Nat.reduceEqDiff, Nat.reduceAdd, Nat.reduceSub, Nat.reduceMul, Nat.reduceLT, Nat.reduceLeDiff, Nat.reduceBEq, Nat.reduceDiv, Nat.reduceMod, Int.reduceToNat, Int.reduceNeg, Int.reduceAdd, Int.reduceSub, Int.reduceMul, Int.reduceEq, Int.reduceNe, Int.reduceLT, Int.reduceLE, Int.reduceGT, Int.reduceGE, h0, h3]
    refine condI_prop (fun h => ?_) (fun h => ?_)
    · simp -implicitDefEqProofs (maxSteps := 1000000) (disch := omega) only [↓xsP, ↓vc_seq, xsQ, xsT, xsR, xsD, ↓reduceIte, reduceCtorEq, eq_self, ne_eq, imp_self, forall_const, Nat.reduceEqDiff, Nat.reduceAdd, Nat.reduceSub, Nat.reduceMul, Nat.reduceLT, Nat.reduceLeDiff, Nat.reduceBEq, Nat.reduceDiv, Nat.reduceMod, Int.reduceToNat, Int.reduceNeg, Int.reduceAdd, Int.reduceSub, Int.reduceMul, Int.reduceEq, Int.reduceNe, Int.reduceLT, Int.reduceLE, Int.reduceGT, Int.reduceGE, h0, h3]
      refine xquiet (by kernel_rfl) (by kernel_rfl) (by kernel_rfl) ?_
      simp -implicitDefEqProofs (maxSteps := 1000000) (disch := omega) only [↓xsP, ↓vc_seq, xsQ, xsT, xsR, xsD, ↓reduceIte, reduceCtorEq, eq_self, ne_eq, imp_self, forall_const, Nat.reduceEqDiff, Nat.reduceAdd, Nat.reduceSub, Nat.reduceMul, Nat.reduceLT, Nat.reduceLeDiff, Nat.reduceBEq, Nat.reduceDiv, Nat.reduceMod, Int.reduceToNat, Int.reduceNeg, Int.reduceAdd, Int.reduceSub, Int.reduceMul, Int.reduceEq, Int.reduceNe, Int.reduceLT, Int.reduceLE, Int.reduceGT, Int.reduceGE, h0, h3]
      refine condI_prop (fun h2 => ?_) (fun h2 => ?_)
      · simp -implicitDefEqProofs (maxSteps := 1000000) (disch := omega) only [↓xsP, ↓vc_seq, xsQ, xsT, xsR, xsD, ↓reduceIte, reduceCtorEq, eq_self, ne_eq, imp_self, forall_const, Nat.reduceEqDiff, Nat.reduceAdd, Nat.reduceSub, Nat.reduceMul, Nat.reduceLT, Nat.reduceLeDiff, Nat.reduceBEq, Nat.reduceDiv, Nat.reduceMod, Int.reduceToNat, Int.reduceNeg, Int.reduceAdd, Int.reduceSub, Int.reduceMul, Int.reduceEq, Int.reduceNe, Int.reduceLT, Int.reduceLE, Int.reduceGT, Int.reduceGE]
        refine fin_ok (Mem.le_refl _) ⟨?_, rfl⟩
        rw [bof_false]
        intro hR
        have := hR i hi (by omega)
        omega
      · simp -implicitDefEqProofs (maxSteps := 1000000) (disch := omega) only [↓xsP, ↓vc_seq, xsQ, xsT, xsR, xsD, ↓reduceIte, reduceCtorEq, eq_self, ne_eq, imp_self, forall_const, Nat.reduceEqDiff, Nat.reduceAdd, Nat.reduceSub, Nat.reduceMul, Nat.reduceLT, Nat.reduceLeDiff, Nat.reduceBEq, Nat.reduceDiv, Nat.reduceMod, Int.reduceToNat, Int.reduceNeg, Int.reduceAdd, Int.reduceSub, Int.reduceMul, Int.reduceEq, Int.reduceNe, Int.reduceLT, Int.reduceLE, Int.reduceGT, Int.reduceGE, h0, h3]
        refine ⟨l.length - (i + 1), M', by omega, Mem.le_refl _, i + 1, by omega, rfl, rfl, rfl, fun j h1 h4 h5 => ?_⟩
        by_cases hj : j < i
        · exact hr j h1 hj h5
        · have : j = i := by omega
          subst this
          omega
    · simp -implicitDefEqProofs (maxSteps := 1000000) (disch := omega) only [↓xsP, ↓vc_seq, xsQ, xsT, xsR, xsD, ↓reduceIte, reduceCtorEq, eq_self, ne_eq, imp_self, forall_const, Nat.reduceEqDiff, Nat.reduceAdd, Nat.reduceSub, Nat.reduceMul, Nat.reduceLT, Nat.reduceLeDiff, Nat.reduceBEq, Nat.reduceDiv, Nat.reduceMod, Int.reduceToNat, Int.reduceNeg, Int.reduceAdd, Int.reduceSub, Int.reduceMul, Int.reduceEq, Int.reduceNe, Int.reduceLT, Int.reduceLE, Int.reduceGT, Int.reduceGE, h0, h3]
      refine fin_ok (Mem.le_refl _) ⟨?_, rfl⟩
      rw [bof_true]
      exact fun j h1 h2 => hr j h1 (by omega) h2

theorem mayPairs_spec (l : List Pr) (hl : l.length ≤ 4611686018427387904) (M : Mem) : XCalls Go.Proofs.Tryd.prog 59 [.l (.sl (l.map Pr.row))] M fun r M' => r = .l (.bool (bof (Rises l))) ∧ M' = M := by
  refine xcalls_intro (rs := [.tmp 2]) Go.Proofs.Tryd.func59 rfl (by kernel_rfl) rfl rfl (by kernel_rfl) (by simp) ?_
  simp -implicitDefEqProofs (maxSteps := 1000000) (disch := omega) only [↓xsP, ↓vc_seq, xsQ, xsT, xsR, xsD, ↓reduceIte, reduceCtorEq, eq_self, ne_eq, imp_self, forall_const, Nat.reduceEqDiff, Nat.reduceAdd, Nat.reduceSub, Nat.reduceMul, Nat.reduceLT, Nat.reduceLeDiff, Nat.reduceBEq, Nat.reduceDiv, Nat.reduceMod, Int.reduceToNat, Int.reduceNeg, Int.reduceAdd, Int.reduceSub, Int.reduceMul, Int.reduceEq, Int.reduceNe, Int.reduceLT, Int.reduceLE, Int.reduceGT, Int.reduceGE]
  refine loopI_of (xloop (by kernel_rfl) (fun k fr M' => ∃ i : Nat, 1 ≤ i ∧ k = l.length - i ∧ fr 0 = .l (.sl (l.map Pr.row)) ∧ fr 3 = .l (.int .i64 i) ∧ M' = M ∧ ∀ j, 1 ≤ j → j < i → j < l.length → (l.getD (j-1) default).key < (l.getD j default).key) (l.length - 1) ?_ ?_)
  · refine ⟨1, Nat.le_refl _, rfl, by simp -implicitDefEqProofs (maxSteps := 1000000) (disch := omega) only [↓xsP, ↓vc_seq, xsQ, xsT, xsR, xsD, ↓reduceIte, reduceCtorEq, eq_self, ne_eq, imp_self, forall_const, Nat.reduceEqDiff, Nat.reduceAdd, Nat.reduceSub, Nat.reduceMul, Nat.reduceLT, Nat.reduceLeDiff, Nat.reduceBEq, Nat.reduceDiv, Nat.reduceMod, Int.reduceToNat, Int.reduceNeg, Int.reduceAdd, Int.reduceSub, Int.reduceMul, Int.reduceEq, Int.reduceNe, Int.reduceLT, Int.reduceLE, Int.reduceGT, Int.reduceGE], by simp -implicitDefEqProofs (maxSteps := 1000000) (disch := omega) only [↓xsP, ↓vc_seq, xsQ, xsT, xsR, xsD, ↓reduceIte, reduceCtorEq, eq_self, ne_eq, imp_self, forall_const, Nat.reduceEqDiff, Nat.reduceAdd, Nat.reduceSub, Nat.reduceMul, Nat.reduceLT, Nat.reduceLeDiff, Nat.reduceBEq, Nat.reduceDiv, Nat.reduceMod, Int.reduceToNat, Int.reduceNeg, Int.reduceAdd, Int.reduceSub, Int.reduceMul, Int.reduceEq, Int.reduceNe, Int.reduceLT, Int.reduceLE, Int.reduceGT, Int.reduceGE, Int.cast_ofNat_Int], rfl, fun j h1 h2 => by omega⟩
  · rintro k fr M' ⟨i, hi, rfl, h0, h3, rfl, hr⟩
    simp -implicitDefEqProofs (maxSteps := 1000000) (disch := omega) only [↓xsP, ↓vc_seq, xsQ, xsT, xsR, xsD, ↓reduceIte, reduceCtorEq, eq_self, ne_eq, imp_self, forall_const, Nat.reduceEqDiff, Nat.reduceAdd, Nat.reduceSub, Nat.reduceMul, Nat.reduceLT, Nat.reduceLeDiff, Nat.reduceBEq, Nat.reduceDiv, Nat.reduceMod, Int.reduceToNat, Int.reduceNeg, Int.reduceAdd, Int.reduceSub, Int.reduceMul, Int.reduceEq, Int.reduceNe, Int.reduceLT, Int.reduceLE, Int.reduceGT, Int.reduceGE, h0, h3]
    refine condI_prop (fun h => ?_) (fun h => ?_)
    · simp -implicitDefEqProofs (maxSteps := 1000000) (disch := omega) only [↓xsP, ↓vc_seq, xsQ, xsT, xsR, xsD, ↓reduceIte, reduceCtorEq, eq_self, ne_eq, imp_self, forall_const, Nat.reduceEqDiff, Nat.reduceAdd, Nat.reduceSub, Nat.reduceMul, Nat.reduceLT, Nat.reduceLeDiff, Nat.reduceBEq, Nat.reduceDiv, Nat.reduceMod, Int.reduceToNat, Int.reduceNeg, Int.reduceAdd, Int.reduceSub, Int.reduceMul, Int.reduceEq, Int.reduceNe, Int.reduceLT, Int.reduceLE, Int.reduceGT, Int.reduceGE, h0, h3]
      refine xquiet (by kernel_rfl) (by kernel_rfl) (by kernel_rfl) ?_
      simp -implicitDefEqProofs (maxSteps := 1000000) (disch := omega) only [↓xsP, ↓vc_seq, xsQ, xsT, xsR, xsD, ↓reduceIte, reduceCtorEq, eq_self, ne_eq, imp_self, forall_const, Nat.reduceEqDiff, Nat.reduceAdd, Nat.reduceSub, Nat.reduceMul, Nat.reduceLT, Nat.reduceLeDiff, Nat.reduceBEq, Nat.reduceDiv, Nat.reduceMod, Int.reduceToNat, Int.reduceNeg, Int.reduceAdd, Int.reduceSub, Int.reduceMul, Int.reduceEq, Int.reduceNe, Int.reduceLT, Int.reduceLE, Int.reduceGT, Int.reduceGE, h0, h3]
      refine condI_prop (fun h2 => ?_) (fun h2 => ?_)
      · simp -implicitDefEqProofs (maxSteps := 1000000) (disch := omega) only [↓xsP, ↓vc_seq, xsQ, xsT, xsR, xsD, ↓reduceIte, reduceCtorEq, eq_self, ne_eq, imp_self, forall_const, Nat.reduceEqDiff, Nat.reduceAdd, Nat.reduceSub, Nat.reduceMul, Nat.reduceLT, Nat.reduceLeDiff, Nat.reduceBEq, Nat.reduceDiv, Nat.reduceMod, Int.reduceToNat, Int.reduceNeg, Int.reduceAdd, Int.reduceSub, Int.reduceMul, Int.reduceEq, Int.reduceNe, Int.reduceLT, Int.reduceLE, Int.reduceGT, Int.reduceGE]
        refine fin_ok (Mem.le_refl _) ⟨?_, rfl⟩
        rw [bof_false]
        intro hR
        have := hR i hi (by omega)
        omega
      · simp -implicitDefEqProofs (maxSteps := 1000000) (disch := omega) only [↓xsP, ↓vc_seq, xsQ, xsT, xsR, xsD, ↓reduceIte, reduceCtorEq, eq_self, ne_eq, imp_self, forall_const, Nat.reduceEqDiff, Nat.reduceAdd, Nat.reduceSub, Nat.reduceMul, Nat.reduceLT, Nat.reduceLeDiff, Nat.reduceBEq, Nat.reduceDiv, Nat.reduceMod, Int.reduceToNat, Int.reduceNeg, Int.reduceAdd, Int.reduceSub, Int.reduceMul, Int.reduceEq, Int.reduceNe, Int.reduceLT, Int.reduceLE, Int.reduceGT, Int.reduceGE, h0, h3]
        refine ⟨l.length - (i + 1), M', by omega, Mem.le_refl _, i + 1, by omega, rfl, rfl, rfl, fun j h1 h4 h5 => ?_⟩
        by_cases hj : j < i
        · exact hr j h1 hj h5
        · have : j = i := by omega
          subst this
          omega
    · simp -implicitDefEqProofs (maxSteps := 1000000) (disch := omega) only [↓xsP, ↓vc_seq, xsQ, xsT, xsR, xsD, ↓reduceIte, reduceCtorEq, eq_self, ne_eq, imp_self, forall_const, Nat.reduceEqDiff, Nat.reduceAdd, Nat.reduceSub, Nat.reduceMul, Nat.reduceLT, Nat.reduceLeDiff, Nat.reduceBEq, Nat.reduceDiv, Nat.reduceMod, Int.reduceToNat, Int.reduceNeg, Int.reduceAdd, Int.reduceSub, Int.reduceMul, Int.reduceEq, Int.reduceNe, Int.reduceLT, Int.reduceLE, Int.reduceGT, Int.reduceGE, h0, h3]
      refine fin_ok (Mem.le_refl _) ⟨?_, rfl⟩
      rw [bof_true]
      exact fun j h1 h2 => hr j h1 (by omega) h2

def mayOpB (o : Opn) : Bool := decide (1 ≤ o.kind) && decide (o.kind ≤ 8)
theorem pr_eq (p q : Pr) : p = q ↔ p.key = q.key ∧ p.val = q.val := by cases p; cases q; simp

theorem ext_getD {α : Type} {d : α} {l m : List α} (hl : l.length = m.length) (h : ∀ j : Nat, j < l.length → l.getD j d = m.getD j d) : l = m := by
  apply List.ext_getElem hl
  intro i h1 h2
  have := h i h1
  simpa [h1, h2] using this
theorem samePairs_spec (l m : List Pr) (hl : l.length ≤ 4611686018427387904) (M : Mem) : XCalls Go.Proofs.Tryd.prog 47 [.l (.sl (l.map Pr.row)), .l (.sl (m.map Pr.row))] M fun r M' => r = .l (.bool (bof (l = m))) ∧ M' = M := by
  refine xcalls_intro (rs := [.tmp 4]) Go.Proofs.Tryd.func47 rfl (by kernel_rfl) rfl rfl (by kernel_rfl) (by simp) ?_
  simp -implicitDefEqProofs (maxSteps := 1000000) (disch := omega) only [↓xsP, ↓vc_seq, xsQ, xsT, xsR, xsD, ↓reduceIte, reduceCtorEq, eq_self, ne_eq, imp_self, forall_const, Nat.reduceEqDiff, Nat.reduceAdd, Nat.reduceSub, Nat.reduceMul, Nat.reduceLT, Nat.reduceLeDiff, Nat.reduceBEq, Nat.reduceDiv, Nat.reduceMod, Int.reduceToNat, Int.reduceNeg, Int.reduceAdd, Int.reduceSub, Int.reduceMul, Int.reduceEq, Int.reduceNe, Int.reduceLT, Int.reduceLE, Int.reduceGT, Int.reduceGE]
  refine condI_prop (fun h => ?_) (fun h => ?_)
  · simp -implicitDefEqProofs (maxSteps := 1000000) (disch := omega) only [↓xsP, ↓vc_seq, xsQ, xsT, xsR, xsD, ↓reduceIte, reduceCtorEq, eq_self, ne_eq, imp_self, forall_const, Nat.reduceEqDiff, Nat.reduceAdd, Nat.reduceSub, Nat.reduceMul, Nat.reduceLT, Nat.reduceLeDiff, Nat.reduceBEq, Nat.reduceDiv, Nat.reduceMod, Int.reduceToNat, Int.reduceNeg, Int.reduceAdd, Int.reduceSub, Int.reduceMul, Int.reduceEq, Int.reduceNe, Int.reduceLT, Int.reduceLE, Int.reduceGT, Int.reduceGE]
    refine fin_ok (Mem.le_refl _) ⟨?_, rfl⟩
    rw [bof_false]
    intro e
    subst e
    omega
  · simp -implicitDefEqProofs (maxSteps := 1000000) (disch := omega) only [↓xsP, ↓vc_seq, xsQ, xsT, xsR, xsD, ↓reduceIte, reduceCtorEq, eq_self, ne_eq, imp_self, forall_const, Nat.reduceEqDiff, Nat.reduceAdd, Nat.reduceSub, Nat.reduceMul, Nat.reduceLT, Nat.reduceLeDiff, Nat.reduceBEq, Nat.reduceDiv, Nat.reduceMod, Int.reduceToNat, Int.reduceNeg, Int.reduceAdd, Int.reduceSub, Int.reduceMul, Int.reduceEq, Int.reduceNe, Int.reduceLT, Int.reduceLE, Int.reduceGT, Int.reduceGE]
    refine loopI_of (xloop (by kernel_rfl) (fun k fr M' => ∃ i : Nat, i ≤ l.length ∧ k = l.length - i ∧ fr 0 = .l (.sl (l.map Pr.row)) ∧ fr 1 = .l (.sl (m.map Pr.row)) ∧ fr 12 = .l (.int .i64 l.length) ∧ fr 13 = .l (.int .i64 i) ∧ M' = M ∧ ∀ j : Nat, j < i → l.getD j default = m.getD j default) l.length ?_ ?_)
    · refine ⟨0, Nat.zero_le _, rfl, by simp -implicitDefEqProofs (maxSteps := 1000000) (disch := omega) only [↓xsP, ↓vc_seq, xsQ, xsT, xsR, xsD, ↓reduceIte, reduceCtorEq, eq_self, ne_eq, imp_self, forall_const, Nat.reduceEqDiff, Nat.reduceAdd, Nat.reduceSub, Nat.reduceMul, Nat.reduceLT, Nat.reduceLeDiff, Nat.reduceBEq, Nat.reduceDiv, Nat.reduceMod, Int.reduceToNat, Int.reduceNeg, Int.reduceAdd, Int.reduceSub, Int.reduceMul, Int.reduceEq, Int.reduceNe, Int.reduceLT, Int.reduceLE, Int.reduceGT, Int.reduceGE], by simp -implicitDefEqProofs (maxSteps := 1000000) (disch := omega) only [↓xsP, ↓vc_seq, xsQ, xsT, xsR, xsD, ↓reduceIte, reduceCtorEq, eq_self, ne_eq, imp_self, forall_const, Nat.reduceEqDiff, Nat.reduceAdd, Nat.reduceSub, Nat.reduceMul, Nat.reduceLT, Nat.reduceLeDiff, Nat.reduceBEq, Nat.reduceDiv, Nat.reduceMod, Int.reduceToNat, Int.reduceNeg, Int.reduceAdd, Int.reduceSub, Int.reduceMul, Int.reduceEq, Int.reduceNe, Int.reduceLT, Int.reduceLE, Int.reduceGT, Int.reduceGE], by simp -implicitDefEqProofs (maxSteps := 1000000) (disch := omega) only [↓xsP, ↓vc_seq, xsQ, xsT, xsR, xsD, ↓reduceIte, reduceCtorEq, eq_self, ne_eq, imp_self, forall_const, Nat.reduceEqDiff, Nat.reduceAdd, Nat.reduceSub, Nat.reduceMul, Nat.reduceLT, Nat.reduceLeDiff, Nat.reduceBEq, Nat.reduceDiv, Nat.reduceMod, Int.reduceToNat, Int.reduceNeg, Int.reduceAdd, Int.reduceSub, Int.reduceMul, Int.reduceEq, Int.reduceNe, Int.reduceLT, Int.reduceLE, Int.reduceGT, Int.reduceGE], by simp -implicitDefEqProofs (maxSteps := 1000000) (disch := omega) only [↓xsP, ↓vc_seq, xsQ, xsT, xsR, xsD, ↓reduceIte, reduceCtorEq, eq_self, ne_eq, imp_self, forall_const, Nat.reduceEqDiff, Nat.reduceAdd, Nat.reduceSub, Nat.reduceMul, Nat.reduceLT, Nat.reduceLeDiff, Nat.reduceBEq, Nat.reduceDiv, Nat.reduceMod, Int.reduceToNat, Int.reduceNeg, Int.reduceAdd, Int.reduceSub, Int.reduceMul, Int.reduceEq, Int.reduceNe, Int.reduceLT, Int.reduceLE, Int.reduceGT, Int.reduceGE, Int.cast_ofNat_Int], rfl, fun j h1 => by omega⟩
    · rintro k fr M' ⟨i, hi, rfl, h0, h1, h12, h13, rfl, hr⟩
      simp -implicitDefEqProofs (maxSteps := 1000000) (disch := omega) only [↓xsP, ↓vc_seq, xsQ, xsT, xsR, xsD, ↓reduceIte, reduceCtorEq, eq_self, ne_eq, imp_self, forall_const, Nat.reduceEqDiff, Nat.reduceAdd, Nat.reduceSub, Nat.reduceMul, Nat.reduceLT, Nat.reduceLeDiff, Nat.reduceBEq, Nat.reduceDiv, Nat.reduceMod, Int.reduceToNat, Int.reduceNeg, Int.reduceAdd, Int.reduceSub, Int.reduceMul, Int.reduceEq, Int.reduceNe, Int.reduceLT, Int.reduceLE, Int.reduceGT, Int.reduceGE, h0, h1, h12, h13]
      refine condI_prop (fun h2 => ?_) (fun h2 => ?_)
      · simp -implicitDefEqProofs (maxSteps := 1000000) (disch := omega) only [↓xsP, ↓vc_seq, xsQ, xsT, xsR, xsD, ↓reduceIte, reduceCtorEq, eq_self, ne_eq, imp_self, forall_const, Nat.reduceEqDiff, Nat.reduceAdd, Nat.reduceSub, Nat.reduceMul, Nat.reduceLT, Nat.reduceLeDiff, Nat.reduceBEq, Nat.reduceDiv, Nat.reduceMod, Int.reduceToNat, Int.reduceNeg, Int.reduceAdd, Int.reduceSub, Int.reduceMul, Int.reduceEq, Int.reduceNe, Int.reduceLT, Int.reduceLE, Int.reduceGT, Int.reduceGE, h0, h1, h12, h13]
        refine xquiet (by kernel_rfl) (by kernel_rfl) (by kernel_rfl) ?_
        simp -implicitDefEqProofs (maxSteps := 1000000) (disch := omega) only [↓xsP, ↓vc_seq, xsQ, xsT, xsR, xsD, ↓reduceIte, reduceCtorEq, eq_self, ne_eq, imp_self, forall_const, Nat.reduceEqDiff, Nat.reduceAdd, Nat.reduceSub, Nat.reduceMul, Nat.reduceLT, Nat.reduceLeDiff, Nat.reduceBEq, Nat.reduceDiv, Nat.reduceMod, Int.reduceToNat, Int.reduceNeg, Int.reduceAdd, Int.reduceSub, Int.reduceMul, Int.reduceEq, Int.reduceNe, Int.reduceLT, Int.reduceLE, Int.reduceGT, Int.reduceGE, h0, h1, h12, h13]
        refine condI_intro (fun h3 => ?_) (fun h3 => ?_)
        · simp -implicitDefEqProofs (maxSteps := 1000000) (disch := omega) only [↓xsP, ↓vc_seq, xsQ, xsT, xsR, xsD, ↓reduceIte, reduceCtorEq, eq_self, ne_eq, imp_self, forall_const, Nat.reduceEqDiff, Nat.reduceAdd, Nat.reduceSub, Nat.reduceMul, Nat.reduceLT, Nat.reduceLeDiff, Nat.reduceBEq, Nat.reduceDiv, Nat.reduceMod, Int.reduceToNat, Int.reduceNeg, Int.reduceAdd, Int.reduceSub, Int.reduceMul, Int.reduceEq, Int.reduceNe, Int.reduceLT, Int.reduceLE, Int.reduceGT, Int.reduceGE]
          refine fin_ok (Mem.le_refl _) ⟨?_, rfl⟩
          rw [bof_false]
          intro e
          subst e
          simp at h3
        · simp -implicitDefEqProofs (maxSteps := 1000000) (disch := omega) only [↓xsP, ↓vc_seq, xsQ, xsT, xsR, xsD, ↓reduceIte, reduceCtorEq, eq_self, ne_eq, imp_self, forall_const, Nat.reduceEqDiff, Nat.reduceAdd, Nat.reduceSub, Nat.reduceMul, Nat.reduceLT, Nat.reduceLeDiff, Nat.reduceBEq, Nat.reduceDiv, Nat.reduceMod, Int.reduceToNat, Int.reduceNeg, Int.reduceAdd, Int.reduceSub, Int.reduceMul, Int.reduceEq, Int.reduceNe, Int.reduceLT, Int.reduceLE, Int.reduceGT, Int.reduceGE, h0, h1, h12, h13]
          refine ⟨l.length - (i + 1), M', by omega, Mem.le_refl _, i + 1, by omega, rfl, rfl, rfl, fun j hj => ?_⟩
          by_cases hji : j < i
          · exact hr j hji
          · have : j = i := by omega
            subst this
            simp only [Bool.not_eq_false', Bool.and_eq_true, decide_eq_true_eq] at h3
            exact (pr_eq _ _).2 h3
      · simp -implicitDefEqProofs (maxSteps := 1000000) (disch := omega) only [↓xsP, ↓vc_seq, xsQ, xsT, xsR, xsD, ↓reduceIte, reduceCtorEq, eq_self, ne_eq, imp_self, forall_const, Nat.reduceEqDiff, Nat.reduceAdd, Nat.reduceSub, Nat.reduceMul, Nat.reduceLT, Nat.reduceLeDiff, Nat.reduceBEq, Nat.reduceDiv, Nat.reduceMod, Int.reduceToNat, Int.reduceNeg, Int.reduceAdd, Int.reduceSub, Int.reduceMul, Int.reduceEq, Int.reduceNe, Int.reduceLT, Int.reduceLE, Int.reduceGT, Int.reduceGE, h0, h1, h12, h13]
        refine fin_ok (Mem.le_refl _) ⟨?_, rfl⟩
        rw [bof_true]
        exact ext_getD (by omega) fun j hj => hr j (by omega)
def ans0 : Ans := ⟨0, false, ⟨0, 0⟩, 0, []⟩
end Go.X
set_option linter.unusedVariables false
set_option linter.unusedSimpArgs false
set_option maxRecDepth 100000
namespace Go.X

def iget : List (Int × Int) → Int → Option Int
  | [], _ => none
  | (a, v) :: r, k => if k = a then some v else iget r k
def iput : List (Int × Int) → Int → Int → List (Int × Int)
  | [], k, v => [(k, v)]
  | (a, b) :: r, k, v => if k = a then (k, v) :: r else (a, b) :: iput r k v
def idel : List (Int × Int) → Int → List (Int × Int)
  | [], _ => []
  | (a, b) :: r, k => if k = a then r else (a, b) :: idel r k
def INod (ms : List (Int × Int)) : Prop := (ms.map (·.1)).Nodup

theorem iget_put (ms : List (Int × Int)) (k v k' : Int) : iget (iput ms k v) k' = if k' = k then some v else iget ms k' := by
  induction ms with
  | nil => simp [iput, iget]
  | cons p r ih =>
    obtain ⟨a, b⟩ := p
    simp only [iput]
    by_cases h : k = a
    · subst h
      by_cases h' : k' = k <;> simp [iget, h']
    · rw [if_neg h]
      simp only [iget, ih]
      by_cases h' : k' = a
      · subst h'
        rw [if_pos rfl, if_pos rfl, if_neg (fun e => h e.symm)]
      · rw [if_neg h', if_neg h']
theorem iget_mem {ms : List (Int × Int)} {k v : Int} (h : iget ms k = some v) : k ∈ ms.map (·.1) := by
  induction ms with
  | nil => cases h
  | cons p r ih =>
    obtain ⟨a, b⟩ := p
    simp only [iget] at h
    split at h
    · rename_i e; subst e; simp
    · simp only [List.map_cons, List.mem_cons]; exact .inr (ih h)
theorem iget_none {ms : List (Int × Int)} {k : Int} (h : k ∉ ms.map (·.1)) : iget ms k = none := by
  cases hg : iget ms k with
  | none => rfl
  | some v => exact absurd (iget_mem hg) h
theorem iget_del {ms : List (Int × Int)} (hn : INod ms) (k k' : Int) : iget (idel ms k) k' = if k' = k then none else iget ms k' := by
  induction ms with
  | nil => simp [idel, iget]
  | cons p r ih =>
    obtain ⟨a, b⟩ := p
    have hn' := List.nodup_cons.1 hn
    simp only [idel]
    by_cases h : k = a
    · subst h
      rw [if_pos rfl]
      by_cases h' : k' = k
      · subst h'
        rw [if_pos rfl]
        exact iget_none hn'.1
      · rw [if_neg h']
        simp [iget, h']
    · rw [if_neg h]
      simp only [iget, ih hn'.2]
      by_cases h' : k' = a
      · subst h'
        rw [if_pos rfl, if_pos rfl, if_neg (fun e => h e.symm)]
      · rw [if_neg h', if_neg h']
theorem iput_keys (ms : List (Int × Int)) (k v : Int) : ∀ x, x ∈ (iput ms k v).map (·.1) ↔ x = k ∨ x ∈ ms.map (·.1) := by
  induction ms with
  | nil => intro x; simp [iput]
  | cons p r ih =>
    obtain ⟨a, b⟩ := p
    intro x
    simp only [iput]
    by_cases h : k = a
    · subst h; simp
    · rw [if_neg h]
      simp only [List.map_cons, List.mem_cons, ih]
      constructor
      · rintro (h | h | h)
        · exact .inr (.inl h)
        · exact .inl h
        · exact .inr (.inr h)
      · rintro (h | h | h)
        · exact .inr (.inl h)
        · exact .inl h
        · exact .inr (.inr h)
theorem iput_nod {ms : List (Int × Int)} (hn : INod ms) (k v : Int) : INod (iput ms k v) := by
  induction ms with
  | nil => simp [iput, INod]
  | cons p r ih =>
    obtain ⟨a, b⟩ := p
    have hn' := List.nodup_cons.1 hn
    simp only [iput]
    by_cases h : k = a
    · subst h; rw [if_pos rfl]; exact List.nodup_cons.2 hn'
    · rw [if_neg h]
      refine List.nodup_cons.2 ⟨fun hm => ?_, ih hn'.2⟩
      rcases (iput_keys r k v a).1 hm with h' | h'
      · exact h h'.symm
      · exact hn'.1 h'
theorem idel_sub (ms : List (Int × Int)) (k : Int) : ∀ x, x ∈ (idel ms k).map (·.1) → x ∈ ms.map (·.1) := by
  induction ms with
  | nil => intro x h; exact h
  | cons p r ih =>
    obtain ⟨a, b⟩ := p
    intro x h
    simp only [idel] at h
    split at h
    · exact List.mem_cons_of_mem _ h
    · rcases List.mem_cons.1 h with h | h
      · exact List.mem_cons.2 (.inl h)
      · exact List.mem_cons_of_mem _ (ih x h)
theorem idel_nod {ms : List (Int × Int)} (hn : INod ms) (k : Int) : INod (idel ms k) := by
  induction ms with
  | nil => exact hn
  | cons p r ih =>
    obtain ⟨a, b⟩ := p
    have hn' := List.nodup_cons.1 hn
    simp only [idel]
    split
    · exact hn'.2
    · exact List.nodup_cons.2 ⟨fun hm => hn'.1 (idel_sub r k a hm), ih hn'.2⟩

end Go.X
set_option linter.unusedVariables false
set_option linter.unusedSimpArgs false
set_option maxRecDepth 100000
namespace Go.X
open Go.Proofs.Tryd (prog)

/-- One event more. -/
noncomputable def rstep (i : Nat) (x : Evt) (s : List Cl × List (Int × Int)) : Option (List Cl × List (Int × Int)) :=
  if x.who < 0 ∨ 6 ≤ x.who then none
  else if x.ret = false then
    if 1 ≤ (iget s.2 x.who).getD 0 ∨ mayOpB x.op = false ∨ x.ans ≠ ans0 then none
    else some (s.1 ++ [⟨x.who, i, -1, x.op, ans0⟩], iput s.2 x.who (s.1.length + 1))
  else
    if (iget s.2 x.who).getD 0 < 1 ∨ (s.1.getD ((iget s.2 x.who).getD 0 - 1).toNat default).op ≠ x.op then none
    else some (s.1.set ((iget s.2 x.who).getD 0 - 1).toNat { s.1.getD ((iget s.2 x.who).getD 0 - 1).toNat default with fin := i, ans := x.ans }, idel s.2 x.who)
end Go.X
set_option linter.unusedVariables false
set_option linter.unusedSimpArgs false
set_option maxRecDepth 100000
namespace Go.X
open Go.Proofs.Tryd (prog)

def tysOf (P : Program) (t : TypeId) : Option (List TypeId) := match P.underlying t with
  | some (.struct fs) => if Contig P fs.toList 0 (P.cellsOf t) then some (fs.toList.map (·.type)) else none
  | _ => none
def OpensT (P : Program) : List TypeId → List (List Lf → Prop) → Prop
  | [], [] => True
  | t :: ts, R :: Rs => Opens P t R ∧ OpensT P ts Rs
  | _, _ => False
theorem OpensT.all {P : Program} : ∀ {fs : List Field} {Rs : List (List Lf → Prop)}, OpensT P (fs.map (·.type)) Rs → OpensAll P fs Rs
  | [], [], _ => trivial
  | f :: fs, R :: Rs, h => ⟨h.1, OpensT.all h.2⟩
  | [], R :: Rs, h => h.elim
  | f :: fs, [], h => h.elim
theorem opens_tys {P : Program} {t : TypeId} {ts : List TypeId} (ht : tysOf P t = some ts) (Rs : List (List Lf → Prop)) (ho : OpensT P ts Rs) : Opens P t (RsAll Rs) := by
  unfold tysOf at ht
  split at ht
  · rename_i fs hu
    split at ht
    · rename_i hc
      simp only [Option.some.injEq] at ht
      subst ht
      exact opens_struct hu Rs hc ho.all
    · cases ht
  · cases ht
theorem rows_map {α : Type} {row : α → List Lf} {B : α → Prop} : ∀ {rows : List (List Lf)}, (∀ r ∈ rows, ∃ a, r = row a ∧ B a) → ∃ l : List α, rows = l.map row ∧ ∀ a ∈ l, B a
  | [], _ => ⟨[], rfl, fun a h => by cases h⟩
  | r :: rs, h => by
    obtain ⟨a, rfl, ha⟩ := h r (by simp)
    obtain ⟨l, rfl, hl⟩ := rows_map (rows := rs) fun x hx => h x (by simp [hx])
    exact ⟨a :: l, rfl, fun x hx => by
      rcases List.mem_cons.1 hx with rfl | hx
      · exact ha
      · exact hl x hx⟩
def IsI (ls : List Lf) : Prop := ∃ n, ls = [.int .i64 n]
def IsB (ls : List Lf) : Prop := ∃ b, ls = [.bool b]
theorem o_i {t : TypeId} (ht : Go.Proofs.Tryd.prog.underlying t = some (.int .i64)) : Opens Go.Proofs.Tryd.prog t IsI := (opens_int ht).mono fun ls ⟨n, h, _⟩ => ⟨n, h⟩
theorem o_b {t : TypeId} (ht : Go.Proofs.Tryd.prog.underlying t = some .bool) : Opens Go.Proofs.Tryd.prog t IsB := opens_bool ht
def big : Nat := 140737488355328
theorem len_of {n b : Nat} (hb : 0 < b) (h : n * b ≤ reachBytes) : n ≤ big := by
  have h1 : n * 1 ≤ n * b := Nat.mul_le_mul_left _ hb
  have h2 : reachBytes < big := by decide
  omega
end Go.X
set_option linter.unusedVariables false
set_option linter.unusedSimpArgs false
set_option maxRecDepth 100000
namespace Go.X
open Go.Proofs.Tryd (prog)
open Go.RowKit Go.ChangeShapes Go.WideShapes Go.ChangeAt

theorem calls_law {P : Program} {f : FuncId} {args : List AV} {vs : Array Value} {W : World} (hx : XCalls P f args mem0 fun r M' => r = .l (.bool true) ∧ M' = mem0) (hA : ArgsR (g0 P W) W args vs) (ht : TabOK P W := by exact tab_none (by kernel_rfl) _) :
    Calls P f vs W fun e W' => e = .returned (.bool true) ∧ Below W.heap.size W W' := by
  refine (hx.2 (g0 P W) W vs rfl hA (rel0 P W ht)).mono ?_
  rintro e w' ⟨rv, v, g', M', rfl, ⟨rfl, rfl⟩, hev, hc, hR⟩
  cases hc with
  | l hc =>
    cases hc
    have := hR.below
    rw [hev.w0] at this
    exact ⟨rfl, this⟩

theorem argsR_nil {g : Gh} {w : World} : ArgsR g w [] #[] := ⟨rfl, fun i x v h => by simp at h⟩
theorem argsR_cons {g : Gh} {w : World} {x : AV} {v : Value} {xs : List AV} {vs : List Value} (h : ConcA g w x v) (hs : ArgsR g w xs vs.toArray) : ArgsR g w (x :: xs) (v :: vs).toArray := by
  refine ⟨by simp [hs.1], fun i y u hy hu => ?_⟩
  cases i with
  | zero => simp at hy hu; subst hy; subst hu; exact h
  | succ i => exact hs.2 i y u (by simpa using hy) (by simpa using hu)

theorem struct_of {P : Program} {t : TypeId} (h : (match P.underlying t with | some (.struct _) => true | _ => false) = true) : ∃ fs, P.underlying t = some (.struct fs) := by
  split at h
  · rename_i fs hf
    exact ⟨fs, hf⟩
  · cases h
section
variable {H : Type} {enc : TypeId × Value → H} {W : World} {base : Nat} {v : Value} {d : DataW H} {p : List MemPlace}

theorem arg_agg {R : List Lf → Prop} {t : TypeId} {fs : Array Field} (hu : Go.Proofs.Tryd.prog.underlying t = some (.struct fs)) (ho : Opens Go.Proofs.Tryd.prog t R) (hok : Value.okWide Go.Proofs.Tryd.prog W .any base t v)
    (h : DataW.Trod enc Go.Proofs.Tryd.prog W 0 (fun _ => true) true t v d p) (hw : ∀ n ∈ d.weights Go.Proofs.Tryd.prog t, n ≤ reachBytes) : ∃ ls, ConcA (g0 Go.Proofs.Tryd.prog W) W (.agg ls) v ∧ R ls := by
  obtain ⟨cs, rfl, _⟩ := okWide_struct hu hok
  obtain ⟨fuel, hf⟩ := h
  obtain ⟨ls, h1, h2⟩ := ho H enc W _ _ fuel _ _ hf hw
  refine ⟨ls, ?_, h2⟩
  have : (Value.agg cs) = .agg cs.toList.toArray := rfl
  rw [this]
  exact .agg _ h1

end
end Go.X
set_option linter.unusedVariables false
set_option linter.unusedSimpArgs false
set_option maxRecDepth 100000
namespace Go.X
open Go.Proofs.Tryd (prog)
open Go.RowKit Go.ChangeShapes Go.WideShapes Go.ChangeAt

def IntOk (n : Int) : Prop := -9223372036854775808 ≤ n ∧ n ≤ 9223372036854775807
def IsIr (ls : List Lf) : Prop := ∃ n, ls = [.int .i64 n] ∧ IntOk n
theorem o_ir {t : TypeId} (ht : Go.Proofs.Tryd.prog.underlying t = some (.int .i64)) : Opens Go.Proofs.Tryd.prog t IsIr := (opens_int ht).mono fun ls ⟨n, h, hwf⟩ => ⟨n, h, by
  simp [Lit.wf, IntKind.min, IntKind.max, IntKind.bits, IntKind.signed] at hwf
  unfold IntOk
  omega⟩
section
variable {H : Type} {enc : TypeId × Value → H} {W : World} {base : Nat} {v : Value} {d : DataW H} {p : List MemPlace}
end
end Go.X
set_option linter.unusedVariables false
set_option linter.unusedSimpArgs false
set_option maxRecDepth 100000
namespace Go.X
open Go.Proofs.Tryd (prog)
open Go.RowKit Go.ChangeShapes Go.WideShapes Go.ChangeAt

theorem o_prA : Opens Go.Proofs.Tryd.prog 79 fun ls => ∃ p : Pr, ls = p.row ∧ IntOk p.key ∧ IntOk p.val := by
  refine (opens_tys (ts := [3, 3]) (by kernel_rfl) [IsIr, IsIr] ⟨o_ir (by kernel_rfl), o_ir (by kernel_rfl), trivial⟩).mono ?_
  rintro ls ⟨a, b, rfl, ⟨x, rfl, hx⟩, c, d, rfl, ⟨y, rfl, hy⟩, rfl⟩
  exact ⟨⟨x, y⟩, rfl, hx, hy⟩
theorem len_of16 {n b : Nat} (hb : b = 16) (h : n * b ≤ reachBytes) : n ≤ 8796093022200 := by
  subst hb
  have h2 : reachBytes ≤ 140737488355200 := by decide
  omega
theorem o_prsA : Opens Go.Proofs.Tryd.prog 44 fun ls => ∃ ps : List Pr, ls = [.sl (ps.map Pr.row)] ∧ ps.length ≤ 8796093022200 ∧ ∀ p ∈ ps, IntOk p.key ∧ IntOk p.val := by
  refine (opens_slice (by kernel_rfl) o_prA (of_decide_eq_true (by kernel_rfl))).mono ?_
  rintro ls ⟨rows, rfl, hr, hb⟩
  obtain ⟨ps, rfl, h2⟩ := rows_map hr
  exact ⟨ps, rfl, by simpa using len_of16 (by kernel_rfl) hb, h2⟩
section
variable {H : Type} {enc : TypeId × Value → H} {W : World} {base : Nat} {v : Value} {d : DataW H} {p : List MemPlace}
end
end Go.X
set_option linter.unusedVariables false
set_option linter.unusedSimpArgs false
set_option maxHeartbeats 20000000
set_option maxRecDepth 100000
namespace Go.X
open Go.Proofs.Tryd (prog)

/-- What may be said when a call is over, once the ghost has been turned. -/
theorem XCalls.fin {P : Program} {f : FuncId} {args : List AV} {M : Mem} {K K' : AV → Mem → Prop} (h : XCalls P f args M K) (hk : ∀ v M', K v M' → XFin P v M' K') : XCalls P f args M K' := by
  refine ⟨h.1, fun g w vs hP hA hR => ?_⟩
  refine (h.2 g w vs hP hA hR).mono ?_
  rintro e w' ⟨rv, v, g', M', rfl, hK, hev, hc, hR'⟩
  obtain ⟨g2, v', M2, h1, h2, h3, h4⟩ := hk v M' hK g' w' rv (hev.P.trans hP) hc hR'
  exact ⟨rv, v', g2, M2, rfl, h1, hev.trans h2, h3, h4⟩

/-- A slice of pairs, kept or of a live block. -/
def SrcIs (M : Mem) (s : Lf) (l : List Pr) : Prop := s = .sl (l.map Pr.row) ∨ ∃ id keep, s = .ms id 0 l.length ∧ M id = some (.cells 79 (l.map Pr.row) keep)
theorem SrcIs.le {M M' : Mem} {s : Lf} {l : List Pr} (h : SrcIs M s l) (hle : M.le M') : SrcIs M' s l := by
  rcases h with h | ⟨id, keep, h, h2⟩
  · exact .inl h
  · exact .inr ⟨id, keep, h, hle _ _ h2⟩

/-- The first place from i on of what is looked for; -1: none. -/
def pidx (q : Pr → Bool) : List Pr → Nat → Int
  | [], _ => -1
  | p :: r, i => if q p then i else pidx q r (i + 1)

theorem index_spec (l : List Pr) (hl : l.length ≤ 140737488355328) (s : Lf) (M : Mem) (hs : SrcIs M s l) (f : FuncId) (caps : List Lf) (q : Pr → Bool) (hq : ∀ p, XCalls Go.Proofs.Tryd.prog f ([.agg p.row] ++ caps.map .l) M fun r M' => r = .l (.bool (q p)) ∧ M' = M) :
    XCalls Go.Proofs.Tryd.prog 62 [.l s, .l (.clo f caps)] M fun r M' => r = .l (.int .i64 (pidx q l 0)) ∧ M' = M := by
  refine xcalls_intro (rs := [.tmp 4]) Go.Proofs.Tryd.func62 rfl (by kernel_rfl) rfl rfl (by kernel_rfl) (by simp) ?_
  have hstep : ∀ i, i < l.length → l.drop i = l.getD i default :: l.drop (i + 1) := fun i hi => by
    rw [List.drop_eq_getElem_cons hi, List.getD_eq_getElem?_getD, List.getElem?_eq_getElem hi, Option.getD_some]
  have inv0 : ∀ i, (i : Nat) = 0 → pidx q l 0 = pidx q (l.drop i) i := fun i h => by subst h; rfl
  rcases hs with rfl | ⟨id, keep, rfl, hM⟩
  · simp -implicitDefEqProofs (maxSteps := 1000000) (disch := omega) only [↓xsP, ↓vc_seq, xsQ, xsT, xsR, xsD, ↓reduceIte, reduceCtorEq, eq_self, ne_eq, imp_self, forall_const, Nat.reduceEqDiff, Nat.reduceAdd, Nat.reduceSub, Nat.reduceMul, Nat.reduceLT, Nat.reduceLeDiff, Nat.reduceBEq, Nat.reduceDiv, Nat.reduceMod, Int.reduceToNat, Int.reduceNeg, Int.reduceAdd, Int.reduceSub, Int.reduceMul, Int.reduceEq, Int.reduceNe, Int.reduceLT, Int.reduceLE, Int.reduceGT, Int.reduceGE]
    refine loopI_of (xloop (by kernel_rfl) (fun k fr M' => ∃ i : Nat, i ≤ l.length ∧ k = l.length - i ∧ fr 0 = .l (.sl (l.map Pr.row)) ∧ fr 1 = .l (.clo f caps) ∧ fr 7 = .l (.int .i64 l.length) ∧ fr 8 = .l (.int .i64 i) ∧ M' = M ∧ pidx q l 0 = pidx q (l.drop i) i) l.length ?_ ?_)
    · exact ⟨0, Nat.zero_le _, rfl, by simp -implicitDefEqProofs (maxSteps := 1000000) (disch := omega) only [↓xsP, ↓vc_seq, xsQ, xsT, xsR, xsD, ↓reduceIte, reduceCtorEq, eq_self, ne_eq, imp_self, forall_const, Nat.reduceEqDiff, Nat.reduceAdd, Nat.reduceSub, Nat.reduceMul, Nat.reduceLT, Nat.reduceLeDiff, Nat.reduceBEq, Nat.reduceDiv, Nat.reduceMod, Int.reduceToNat, Int.reduceNeg, Int.reduceAdd, Int.reduceSub, Int.reduceMul, Int.reduceEq, Int.reduceNe, Int.reduceLT, Int.reduceLE, Int.reduceGT, Int.reduceGE], by simp -implicitDefEqProofs (maxSteps := 1000000) (disch := omega) only [↓xsP, ↓vc_seq, xsQ, xsT, xsR, xsD, ↓reduceIte, reduceCtorEq, eq_self, ne_eq, imp_self, forall_const, Nat.reduceEqDiff, Nat.reduceAdd, Nat.reduceSub, Nat.reduceMul, Nat.reduceLT, Nat.reduceLeDiff, Nat.reduceBEq, Nat.reduceDiv, Nat.reduceMod, Int.reduceToNat, Int.reduceNeg, Int.reduceAdd, Int.reduceSub, Int.reduceMul, Int.reduceEq, Int.reduceNe, Int.reduceLT, Int.reduceLE, Int.reduceGT, Int.reduceGE], by simp -implicitDefEqProofs (maxSteps := 1000000) (disch := omega) only [↓xsP, ↓vc_seq, xsQ, xsT, xsR, xsD, ↓reduceIte, reduceCtorEq, eq_self, ne_eq, imp_self, forall_const, Nat.reduceEqDiff, Nat.reduceAdd, Nat.reduceSub, Nat.reduceMul, Nat.reduceLT, Nat.reduceLeDiff, Nat.reduceBEq, Nat.reduceDiv, Nat.reduceMod, Int.reduceToNat, Int.reduceNeg, Int.reduceAdd, Int.reduceSub, Int.reduceMul, Int.reduceEq, Int.reduceNe, Int.reduceLT, Int.reduceLE, Int.reduceGT, Int.reduceGE], by simp -implicitDefEqProofs (maxSteps := 1000000) (disch := omega) only [↓xsP, ↓vc_seq, xsQ, xsT, xsR, xsD, ↓reduceIte, reduceCtorEq, eq_self, ne_eq, imp_self, forall_const, Nat.reduceEqDiff, Nat.reduceAdd, Nat.reduceSub, Nat.reduceMul, Nat.reduceLT, Nat.reduceLeDiff, Nat.reduceBEq, Nat.reduceDiv, Nat.reduceMod, Int.reduceToNat, Int.reduceNeg, Int.reduceAdd, Int.reduceSub, Int.reduceMul, Int.reduceEq, Int.reduceNe, Int.reduceLT, Int.reduceLE, Int.reduceGT, Int.reduceGE, Int.cast_ofNat_Int], rfl, inv0 0 rfl⟩
    · rintro k fr M' ⟨i, hi, rfl, h0, h1, h7, h8, rfl, hinv⟩
      simp -implicitDefEqProofs (maxSteps := 1000000) (disch := omega) only [↓xsP, ↓vc_seq, xsQ, xsT, xsR, xsD, ↓reduceIte, reduceCtorEq, eq_self, ne_eq, imp_self, forall_const, Nat.reduceEqDiff, Nat.reduceAdd, Nat.reduceSub, Nat.reduceMul, Nat.reduceLT, Nat.reduceLeDiff, Nat.reduceBEq, Nat.reduceDiv, Nat.reduceMod, Int.reduceToNat, Int.reduceNeg, Int.reduceAdd, Int.reduceSub, Int.reduceMul, Int.reduceEq, Int.reduceNe, Int.reduceLT, Int.reduceLE, Int.reduceGT, Int.reduceGE, h0, h1, h7, h8]
      refine condI_prop (fun hlt => ?_) (fun hlt => ?_)
      · simp -implicitDefEqProofs (maxSteps := 1000000) (disch := omega) only [↓xsP, ↓vc_seq, xsQ, xsT, xsR, xsD, ↓reduceIte, reduceCtorEq, eq_self, ne_eq, imp_self, forall_const, Nat.reduceEqDiff, Nat.reduceAdd, Nat.reduceSub, Nat.reduceMul, Nat.reduceLT, Nat.reduceLeDiff, Nat.reduceBEq, Nat.reduceDiv, Nat.reduceMod, Int.reduceToNat, Int.reduceNeg, Int.reduceAdd, Int.reduceSub, Int.reduceMul, Int.reduceEq, Int.reduceNe, Int.reduceLT, Int.reduceLE, Int.reduceGT, Int.reduceGE, h0, h1, h7, h8]
        rw [hstep i (by omega), pidx] at hinv
        refine call_of (hq (l.getD i default)) ?_
        cases hb : q (l.getD i default) with
        | true =>
          rw [hb, if_pos rfl] at hinv
          simp -implicitDefEqProofs (maxSteps := 1000000) (disch := omega) only [↓xsP, ↓vc_seq, xsQ, xsT, xsR, xsD, ↓reduceIte, reduceCtorEq, eq_self, ne_eq, imp_self, forall_const, Nat.reduceEqDiff, Nat.reduceAdd, Nat.reduceSub, Nat.reduceMul, Nat.reduceLT, Nat.reduceLeDiff, Nat.reduceBEq, Nat.reduceDiv, Nat.reduceMod, Int.reduceToNat, Int.reduceNeg, Int.reduceAdd, Int.reduceSub, Int.reduceMul, Int.reduceEq, Int.reduceNe, Int.reduceLT, Int.reduceLE, Int.reduceGT, Int.reduceGE, h0, h1, h7, h8]
          exact fin_ok (Mem.le_refl _) ⟨by rw [hinv], rfl⟩
        | false =>
          rw [hb] at hinv
          simp -implicitDefEqProofs (maxSteps := 1000000) (disch := omega) only [↓xsP, ↓vc_seq, xsQ, xsT, xsR, xsD, ↓reduceIte, reduceCtorEq, eq_self, ne_eq, imp_self, forall_const, Nat.reduceEqDiff, Nat.reduceAdd, Nat.reduceSub, Nat.reduceMul, Nat.reduceLT, Nat.reduceLeDiff, Nat.reduceBEq, Nat.reduceDiv, Nat.reduceMod, Int.reduceToNat, Int.reduceNeg, Int.reduceAdd, Int.reduceSub, Int.reduceMul, Int.reduceEq, Int.reduceNe, Int.reduceLT, Int.reduceLE, Int.reduceGT, Int.reduceGE, h0, h1, h7, h8]
          exact ⟨l.length - (i + 1), M', by omega, Mem.le_refl _, i + 1, by omega, rfl, by simp, rfl, by simpa using hinv⟩
      · simp -implicitDefEqProofs (maxSteps := 1000000) (disch := omega) only [↓xsP, ↓vc_seq, xsQ, xsT, xsR, xsD, ↓reduceIte, reduceCtorEq, eq_self, ne_eq, imp_self, forall_const, Nat.reduceEqDiff, Nat.reduceAdd, Nat.reduceSub, Nat.reduceMul, Nat.reduceLT, Nat.reduceLeDiff, Nat.reduceBEq, Nat.reduceDiv, Nat.reduceMod, Int.reduceToNat, Int.reduceNeg, Int.reduceAdd, Int.reduceSub, Int.reduceMul, Int.reduceEq, Int.reduceNe, Int.reduceLT, Int.reduceLE, Int.reduceGT, Int.reduceGE, h0, h1, h7, h8]
        have hil : i = l.length := by omega
        rw [hil, List.drop_length, pidx] at hinv
        exact fin_ok (Mem.le_refl _) ⟨by rw [hinv], rfl⟩
  · simp -implicitDefEqProofs (maxSteps := 1000000) (disch := omega) only [↓xsP, ↓vc_seq, xsQ, xsT, xsR, xsD, ↓reduceIte, reduceCtorEq, eq_self, ne_eq, imp_self, forall_const, Nat.reduceEqDiff, Nat.reduceAdd, Nat.reduceSub, Nat.reduceMul, Nat.reduceLT, Nat.reduceLeDiff, Nat.reduceBEq, Nat.reduceDiv, Nat.reduceMod, Int.reduceToNat, Int.reduceNeg, Int.reduceAdd, Int.reduceSub, Int.reduceMul, Int.reduceEq, Int.reduceNe, Int.reduceLT, Int.reduceLE, Int.reduceGT, Int.reduceGE]
    refine loopI_of (xloop (by kernel_rfl) (fun k fr M' => ∃ i : Nat, i ≤ l.length ∧ k = l.length - i ∧ fr 0 = .l (.ms id 0 l.length) ∧ fr 1 = .l (.clo f caps) ∧ fr 7 = .l (.int .i64 l.length) ∧ fr 8 = .l (.int .i64 i) ∧ M' = M ∧ pidx q l 0 = pidx q (l.drop i) i) l.length ?_ ?_)
    · exact ⟨0, Nat.zero_le _, rfl, by simp -implicitDefEqProofs (maxSteps := 1000000) (disch := omega) only [↓xsP, ↓vc_seq, xsQ, xsT, xsR, xsD, ↓reduceIte, reduceCtorEq, eq_self, ne_eq, imp_self, forall_const, Nat.reduceEqDiff, Nat.reduceAdd, Nat.reduceSub, Nat.reduceMul, Nat.reduceLT, Nat.reduceLeDiff, Nat.reduceBEq, Nat.reduceDiv, Nat.reduceMod, Int.reduceToNat, Int.reduceNeg, Int.reduceAdd, Int.reduceSub, Int.reduceMul, Int.reduceEq, Int.reduceNe, Int.reduceLT, Int.reduceLE, Int.reduceGT, Int.reduceGE], by simp -implicitDefEqProofs (maxSteps := 1000000) (disch := omega) only [↓xsP, ↓vc_seq, xsQ, xsT, xsR, xsD, ↓reduceIte, reduceCtorEq, eq_self, ne_eq, imp_self, forall_const, Nat.reduceEqDiff, Nat.reduceAdd, Nat.reduceSub, Nat.reduceMul, Nat.reduceLT, Nat.reduceLeDiff, Nat.reduceBEq, Nat.reduceDiv, Nat.reduceMod, Int.reduceToNat, Int.reduceNeg, Int.reduceAdd, Int.reduceSub, Int.reduceMul, Int.reduceEq, Int.reduceNe, Int.reduceLT, Int.reduceLE, Int.reduceGT, Int.reduceGE], by simp -implicitDefEqProofs (maxSteps := 1000000) (disch := omega) only [↓xsP, ↓vc_seq, xsQ, xsT, xsR, xsD, ↓reduceIte, reduceCtorEq, eq_self, ne_eq, imp_self, forall_const, Nat.reduceEqDiff, Nat.reduceAdd, Nat.reduceSub, Nat.reduceMul, Nat.reduceLT, Nat.reduceLeDiff, Nat.reduceBEq, Nat.reduceDiv, Nat.reduceMod, Int.reduceToNat, Int.reduceNeg, Int.reduceAdd, Int.reduceSub, Int.reduceMul, Int.reduceEq, Int.reduceNe, Int.reduceLT, Int.reduceLE, Int.reduceGT, Int.reduceGE], by simp -implicitDefEqProofs (maxSteps := 1000000) (disch := omega) only [↓xsP, ↓vc_seq, xsQ, xsT, xsR, xsD, ↓reduceIte, reduceCtorEq, eq_self, ne_eq, imp_self, forall_const, Nat.reduceEqDiff, Nat.reduceAdd, Nat.reduceSub, Nat.reduceMul, Nat.reduceLT, Nat.reduceLeDiff, Nat.reduceBEq, Nat.reduceDiv, Nat.reduceMod, Int.reduceToNat, Int.reduceNeg, Int.reduceAdd, Int.reduceSub, Int.reduceMul, Int.reduceEq, Int.reduceNe, Int.reduceLT, Int.reduceLE, Int.reduceGT, Int.reduceGE, Int.cast_ofNat_Int], rfl, inv0 0 rfl⟩
    · rintro k fr M' ⟨i, hi, rfl, h0, h1, h7, h8, rfl, hinv⟩
      simp -implicitDefEqProofs (maxSteps := 1000000) (disch := omega) only [↓xsP, ↓vc_seq, xsQ, xsT, xsR, xsD, ↓reduceIte, reduceCtorEq, eq_self, ne_eq, imp_self, forall_const, Nat.reduceEqDiff, Nat.reduceAdd, Nat.reduceSub, Nat.reduceMul, Nat.reduceLT, Nat.reduceLeDiff, Nat.reduceBEq, Nat.reduceDiv, Nat.reduceMod, Int.reduceToNat, Int.reduceNeg, Int.reduceAdd, Int.reduceSub, Int.reduceMul, Int.reduceEq, Int.reduceNe, Int.reduceLT, Int.reduceLE, Int.reduceGT, Int.reduceGE, h0, h1, h7, h8]
      refine condI_prop (fun hlt => ?_) (fun hlt => ?_)
      · simp -implicitDefEqProofs (maxSteps := 1000000) (disch := omega) only [↓xsP, ↓vc_seq, xsQ, xsT, xsR, xsD, ↓reduceIte, reduceCtorEq, eq_self, ne_eq, imp_self, forall_const, Nat.reduceEqDiff, Nat.reduceAdd, Nat.reduceSub, Nat.reduceMul, Nat.reduceLT, Nat.reduceLeDiff, Nat.reduceBEq, Nat.reduceDiv, Nat.reduceMod, Int.reduceToNat, Int.reduceNeg, Int.reduceAdd, Int.reduceSub, Int.reduceMul, Int.reduceEq, Int.reduceNe, Int.reduceLT, Int.reduceLE, Int.reduceGT, Int.reduceGE, h0, h1, h7, h8, hM]
        rw [hstep i (by omega), pidx] at hinv
        refine call_of (hq (l.getD i default)) ?_
        cases hb : q (l.getD i default) with
        | true =>
          rw [hb, if_pos rfl] at hinv
          simp -implicitDefEqProofs (maxSteps := 1000000) (disch := omega) only [↓xsP, ↓vc_seq, xsQ, xsT, xsR, xsD, ↓reduceIte, reduceCtorEq, eq_self, ne_eq, imp_self, forall_const, Nat.reduceEqDiff, Nat.reduceAdd, Nat.reduceSub, Nat.reduceMul, Nat.reduceLT, Nat.reduceLeDiff, Nat.reduceBEq, Nat.reduceDiv, Nat.reduceMod, Int.reduceToNat, Int.reduceNeg, Int.reduceAdd, Int.reduceSub, Int.reduceMul, Int.reduceEq, Int.reduceNe, Int.reduceLT, Int.reduceLE, Int.reduceGT, Int.reduceGE, h0, h1, h7, h8]
          exact fin_ok (Mem.le_refl _) ⟨by rw [hinv], rfl⟩
        | false =>
          rw [hb] at hinv
          simp -implicitDefEqProofs (maxSteps := 1000000) (disch := omega) only [↓xsP, ↓vc_seq, xsQ, xsT, xsR, xsD, ↓reduceIte, reduceCtorEq, eq_self, ne_eq, imp_self, forall_const, Nat.reduceEqDiff, Nat.reduceAdd, Nat.reduceSub, Nat.reduceMul, Nat.reduceLT, Nat.reduceLeDiff, Nat.reduceBEq, Nat.reduceDiv, Nat.reduceMod, Int.reduceToNat, Int.reduceNeg, Int.reduceAdd, Int.reduceSub, Int.reduceMul, Int.reduceEq, Int.reduceNe, Int.reduceLT, Int.reduceLE, Int.reduceGT, Int.reduceGE, h0, h1, h7, h8]
          exact ⟨l.length - (i + 1), M', by omega, Mem.le_refl _, i + 1, by omega, rfl, by simp, rfl, by simpa using hinv⟩
      · simp -implicitDefEqProofs (maxSteps := 1000000) (disch := omega) only [↓xsP, ↓vc_seq, xsQ, xsT, xsR, xsD, ↓reduceIte, reduceCtorEq, eq_self, ne_eq, imp_self, forall_const, Nat.reduceEqDiff, Nat.reduceAdd, Nat.reduceSub, Nat.reduceMul, Nat.reduceLT, Nat.reduceLeDiff, Nat.reduceBEq, Nat.reduceDiv, Nat.reduceMod, Int.reduceToNat, Int.reduceNeg, Int.reduceAdd, Int.reduceSub, Int.reduceMul, Int.reduceEq, Int.reduceNe, Int.reduceLT, Int.reduceLE, Int.reduceGT, Int.reduceGE, h0, h1, h7, h8]
        have hil : i = l.length := by omega
        rw [hil, List.drop_length, pidx] at hinv
        exact fin_ok (Mem.le_refl _) ⟨by rw [hinv], rfl⟩

theorem eql_sl_nil (P : Program) (t : TypeId) (x : Operand) (rows : List (List Lf)) (K : AV → Prop) : @binI P .eql t x (.const (.slice none 0 0)) (.l (.sl rows)) (.l .nils) ⟨K⟩ = @optI _ (tiOf P t) ⟨fun i => match i.d with | .slice _ => @nilSI false (.l (.sl rows)) ⟨K⟩ | _ => False⟩ :=
  eql_nils P t x _ _ (fun k n h => by cases h) K
theorem rows2 (l : List Pr) : ∀ r ∈ l.map Pr.row, r.length = 2 := fun r hr => by
  obtain ⟨p, _, rfl⟩ := List.mem_map.1 hr
  rfl
/-- append of pairs to a slice of a live block. -/
theorem app_prs {l : List Pr} {id len : Nat} {rows : List (List Lf)} {keep : Nat} {M : Mem} (hM : M id = some (.cells 79 rows keep)) (hlen : len ≤ rows.length) (hk : keep ≤ len) (hb : len + l.length ≤ 8796093022208) {K : AV → Mem → Prop}
    (h : ∀ id', (∀ j, id' ≤ j → M j = none) → K (.l (.ms id' 0 (len + l.length))) ((M.del id).set id' (.cells 79 (rows.take len ++ l.map Pr.row) keep))) :
    @appI Go.Proofs.Tryd.prog M 44 44 (.l (.ms id 0 len)) (.l (.sl (l.map Pr.row))) ⟨K⟩ := by
  refine app_ms _ _ _ _ 79 _ _ ti_44 rfl ti_79 (by kernel_rfl) (by decide) id len _ (rows := rows) (keep := keep) (l.map Pr.row) hM ?_ hlen hk ?_ ?_ ?_
  · simp -implicitDefEqProofs (maxSteps := 1000000) (disch := omega) only [↓xsP, ↓vc_seq, xsQ, xsT, xsR, xsD, ↓reduceIte, reduceCtorEq, eq_self, ne_eq, imp_self, forall_const, Nat.reduceEqDiff, Nat.reduceAdd, Nat.reduceSub, Nat.reduceMul, Nat.reduceLT, Nat.reduceLeDiff, Nat.reduceBEq, Nat.reduceDiv, Nat.reduceMod, Int.reduceToNat, Int.reduceNeg, Int.reduceAdd, Int.reduceSub, Int.reduceMul, Int.reduceEq, Int.reduceNe, Int.reduceLT, Int.reduceLE, Int.reduceGT, Int.reduceGE]
    rw [if_pos (rows2 l)]
  · exact Nat.le_trans (Nat.mul_le_mul_right _ (show len + (l.map Pr.row).length ≤ 8796093022208 by simpa using hb)) (by decide)
  · simp
    omega
  · simpa using h
theorem le_clone {M : Mem} {id id' : Nat} {X Y : Blk} (h : M id = none) : (M.set id' X).le (((M.set id Y).del id).set id' X) := fun i b hb => by
  simp only [Mem.set_app, Mem.del_app] at hb ⊢
  by_cases e : id' = i
  · rw [if_pos e] at hb ⊢; exact hb
  · rw [if_neg e] at hb ⊢
    have hne : ¬ id = i := fun e' => by subst e'; rw [h] at hb; cases hb
    rw [if_neg hne, if_neg hne]
    exact hb
/-- A copy: nil, or a block of its own. -/
theorem clone_live (l : List Pr) (hl : l.length ≤ 8796093022207) (M : Mem) :
    XCalls Go.Proofs.Tryd.prog 66 [.l (.sl (l.map Pr.row))] M fun r M' => (r = .l .nils ∧ l = [] ∧ M' = M) ∨ ∃ id, (∀ j, id ≤ j → M j = none) ∧ r = .l (.ms id 0 l.length) ∧ M' = M.set id (.cells 79 (l.map Pr.row) 0) := by
  refine xcalls_intro (rs := [.tmp 2]) Go.Proofs.Tryd.func66 rfl (by kernel_rfl) rfl rfl (by kernel_rfl) (by simp) ?_
  simp -implicitDefEqProofs (maxSteps := 1000000) (disch := omega) only [↓xsP, ↓vc_seq, xsQ, xsT, xsR, xsD, ↓reduceIte, reduceCtorEq, eq_self, ne_eq, imp_self, forall_const, Nat.reduceEqDiff, Nat.reduceAdd, Nat.reduceSub, Nat.reduceMul, Nat.reduceLT, Nat.reduceLeDiff, Nat.reduceBEq, Nat.reduceDiv, Nat.reduceMod, Int.reduceToNat, Int.reduceNeg, Int.reduceAdd, Int.reduceSub, Int.reduceMul, Int.reduceEq, Int.reduceNe, Int.reduceLT, Int.reduceLE, Int.reduceGT, Int.reduceGE]
  rw [eql_sl_nil]
  simp -implicitDefEqProofs (maxSteps := 1000000) (disch := omega) only [↓xsP, ↓vc_seq, xsQ, xsT, xsR, xsD, ↓reduceIte, reduceCtorEq, eq_self, ne_eq, imp_self, forall_const, Nat.reduceEqDiff, Nat.reduceAdd, Nat.reduceSub, Nat.reduceMul, Nat.reduceLT, Nat.reduceLeDiff, Nat.reduceBEq, Nat.reduceDiv, Nat.reduceMod, Int.reduceToNat, Int.reduceNeg, Int.reduceAdd, Int.reduceSub, Int.reduceMul, Int.reduceEq, Int.reduceNe, Int.reduceLT, Int.reduceLE, Int.reduceGT, Int.reduceGE]
  refine nilSI_sl _ (fun he b => ?_) (fun hne => ?_)
  · have hl0 : l = [] := by simpa using he
    subst hl0
    cases b with
    | true =>
      simp -implicitDefEqProofs (maxSteps := 1000000) (disch := omega) only [↓xsP, ↓vc_seq, xsQ, xsT, xsR, xsD, ↓reduceIte, reduceCtorEq, eq_self, ne_eq, imp_self, forall_const, Nat.reduceEqDiff, Nat.reduceAdd, Nat.reduceSub, Nat.reduceMul, Nat.reduceLT, Nat.reduceLeDiff, Nat.reduceBEq, Nat.reduceDiv, Nat.reduceMod, Int.reduceToNat, Int.reduceNeg, Int.reduceAdd, Int.reduceSub, Int.reduceMul, Int.reduceEq, Int.reduceNe, Int.reduceLT, Int.reduceLE, Int.reduceGT, Int.reduceGE]
      exact fin_ok (Mem.le_refl _) (.inl ⟨rfl, rfl, rfl⟩)
    | false =>
      simp -implicitDefEqProofs (maxSteps := 1000000) (disch := omega) only [↓xsP, ↓vc_seq, xsQ, xsT, xsR, xsD, ↓reduceIte, reduceCtorEq, eq_self, ne_eq, imp_self, forall_const, Nat.reduceEqDiff, Nat.reduceAdd, Nat.reduceSub, Nat.reduceMul, Nat.reduceLT, Nat.reduceLeDiff, Nat.reduceBEq, Nat.reduceDiv, Nat.reduceMod, Int.reduceToNat, Int.reduceNeg, Int.reduceAdd, Int.reduceSub, Int.reduceMul, Int.reduceEq, Int.reduceNe, Int.reduceLT, Int.reduceLE, Int.reduceGT, Int.reduceGE]
      refine newI_intro fun id hid => ?_
      simp -implicitDefEqProofs (maxSteps := 1000000) (disch := omega) only [↓xsP, ↓vc_seq, xsQ, xsT, xsR, xsD, ↓reduceIte, reduceCtorEq, eq_self, ne_eq, imp_self, forall_const, Nat.reduceEqDiff, Nat.reduceAdd, Nat.reduceSub, Nat.reduceMul, Nat.reduceLT, Nat.reduceLeDiff, Nat.reduceBEq, Nat.reduceDiv, Nat.reduceMod, Int.reduceToNat, Int.reduceNeg, Int.reduceAdd, Int.reduceSub, Int.reduceMul, Int.reduceEq, Int.reduceNe, Int.reduceLT, Int.reduceLE, Int.reduceGT, Int.reduceGE]
      refine app_prs (l := []) (rows := []) (keep := 0) (Mem.set_eq _ _ _) (Nat.zero_le _) (Nat.le_refl _) (by simp) fun id' hid' => ?_
      obtain ⟨hlt, hid'⟩ := bnd_new hid'
      simp -implicitDefEqProofs (maxSteps := 1000000) (disch := omega) only [↓xsP, ↓vc_seq, xsQ, xsT, xsR, xsD, ↓reduceIte, reduceCtorEq, eq_self, ne_eq, imp_self, forall_const, Nat.reduceEqDiff, Nat.reduceAdd, Nat.reduceSub, Nat.reduceMul, Nat.reduceLT, Nat.reduceLeDiff, Nat.reduceBEq, Nat.reduceDiv, Nat.reduceMod, Int.reduceToNat, Int.reduceNeg, Int.reduceAdd, Int.reduceSub, Int.reduceMul, Int.reduceEq, Int.reduceNe, Int.reduceLT, Int.reduceLE, Int.reduceGT, Int.reduceGE]
      exact finI_of (XFin.le (le_clone (hid _ (Nat.le_refl _))) (.inr ⟨id', hid', rfl, rfl⟩))
  · simp -implicitDefEqProofs (maxSteps := 1000000) (disch := omega) only [↓xsP, ↓vc_seq, xsQ, xsT, xsR, xsD, ↓reduceIte, reduceCtorEq, eq_self, ne_eq, imp_self, forall_const, Nat.reduceEqDiff, Nat.reduceAdd, Nat.reduceSub, Nat.reduceMul, Nat.reduceLT, Nat.reduceLeDiff, Nat.reduceBEq, Nat.reduceDiv, Nat.reduceMod, Int.reduceToNat, Int.reduceNeg, Int.reduceAdd, Int.reduceSub, Int.reduceMul, Int.reduceEq, Int.reduceNe, Int.reduceLT, Int.reduceLE, Int.reduceGT, Int.reduceGE]
    refine newI_intro fun id hid => ?_
    simp -implicitDefEqProofs (maxSteps := 1000000) (disch := omega) only [↓xsP, ↓vc_seq, xsQ, xsT, xsR, xsD, ↓reduceIte, reduceCtorEq, eq_self, ne_eq, imp_self, forall_const, Nat.reduceEqDiff, Nat.reduceAdd, Nat.reduceSub, Nat.reduceMul, Nat.reduceLT, Nat.reduceLeDiff, Nat.reduceBEq, Nat.reduceDiv, Nat.reduceMod, Int.reduceToNat, Int.reduceNeg, Int.reduceAdd, Int.reduceSub, Int.reduceMul, Int.reduceEq, Int.reduceNe, Int.reduceLT, Int.reduceLE, Int.reduceGT, Int.reduceGE]
    refine app_prs (l := l) (rows := []) (keep := 0) (Mem.set_eq _ _ _) (Nat.zero_le _) (Nat.le_refl _) (by omega) fun id' hid' => ?_
    obtain ⟨hlt, hid'⟩ := bnd_new hid'
    simp -implicitDefEqProofs (maxSteps := 1000000) (disch := omega) only [↓xsP, ↓vc_seq, xsQ, xsT, xsR, xsD, ↓reduceIte, reduceCtorEq, eq_self, ne_eq, imp_self, forall_const, Nat.reduceEqDiff, Nat.reduceAdd, Nat.reduceSub, Nat.reduceMul, Nat.reduceLT, Nat.reduceLeDiff, Nat.reduceBEq, Nat.reduceDiv, Nat.reduceMod, Int.reduceToNat, Int.reduceNeg, Int.reduceAdd, Int.reduceSub, Int.reduceMul, Int.reduceEq, Int.reduceNe, Int.reduceLT, Int.reduceLE, Int.reduceGT, Int.reduceGE]
    exact finI_of (XFin.le (le_clone (hid _ (Nat.le_refl _))) (.inr ⟨id', hid', rfl, rfl⟩))
/-- A copy, kept. -/
theorem clone_spec (l : List Pr) (hl : l.length ≤ 8796093022207) (M : Mem) :
    XCalls Go.Proofs.Tryd.prog 66 [.l (.sl (l.map Pr.row))] M fun r M' => r = .l (.sl (l.map Pr.row)) ∧ M' = M := by
  refine (clone_live l hl M).fin ?_
  rintro v M' (⟨rfl, rfl, rfl⟩ | ⟨id, hid, rfl, rfl⟩)
  · exact XFin.wk (XFin.here ⟨rfl, rfl⟩)
  · refine XFin.frz id (Mem.set_eq _ _ _) (XFin.le ?_ ⟨?_, rfl⟩)
    · exact le_new (le_new (Mem.le_refl _) hid) hid
    · simp [frzA, frz1, frzL, List.take_of_length_le]

theorem pidx_cases (q : Pr → Bool) : ∀ (l : List Pr) (i : Nat), (pidx q l i = -1 ∧ ∀ p ∈ l, q p = false) ∨ ∃ k, k < l.length ∧ pidx q l i = (i : Int) + k ∧ q (l.getD k default) = true ∧ ∀ p ∈ l.take k, q p = false
  | [], i => .inl ⟨rfl, fun p hp => by cases hp⟩
  | p :: r, i => by
    simp only [pidx]
    cases hq : q p with
    | true => exact .inr ⟨0, by simp, by simp, by simpa using hq, fun p hp => by simp at hp⟩
    | false =>
      rcases pidx_cases q r (i + 1) with ⟨h1, h2⟩ | ⟨k, hk, h1, h2, h3⟩
      · refine .inl ⟨by simpa using h1, fun x hx => ?_⟩
        rcases List.mem_cons.1 hx with rfl | hx
        · exact hq
        · exact h2 x hx
      · refine .inr ⟨k + 1, by simpa using hk, ?_, by simpa using h2, fun x hx => ?_⟩
        · simp only [Bool.false_eq_true, if_false]
          rw [h1]
          omega
        · rw [List.take_succ_cons] at hx
          rcases List.mem_cons.1 hx with rfl | hx
          · exact hq
          · exact h3 x hx

end Go.X
set_option linter.unusedVariables false
set_option linter.unusedSimpArgs false
set_option maxRecDepth 100000
namespace Go.X

theorem gd_app (l : List Cl) (c : Cl) (k : Nat) : (l ++ [c]).getD k default = if k < l.length then l.getD k default else if k = l.length then c else default := by
  simp only [List.getD_eq_getElem?_getD]
  split
  · rename_i h
    rw [List.getElem?_append_left h]
  · rename_i h
    rw [List.getElem?_append_right (by omega)]
    split
    · rename_i e
      subst e
      simp
    · rename_i e
      have : k - l.length ≠ 0 := by omega
      cases hk : k - l.length with
      | zero => omega
      | succ n => simp
theorem gd_set (l : List Cl) (c : Cl) (j k : Nat) (hj : j < l.length) : (l.set j c).getD k default = if k = j then c else l.getD k default := by
  simp only [List.getD_eq_getElem?_getD, List.getElem?_set]
  by_cases h : j = k
  · subst h
    simp [hj]
  · simp [h, Ne.symm h]

/-- What the state says. -/
structure HInv (h : List Evt) (i : Nat) (s : List Cl × List (Int × Int)) : Prop where
  nod : INod s.2
  beg : ∀ k, k < s.1.length → ∃ b, b < i ∧ (s.1.getD k default).beg = (b : Int) ∧ (h.getD b default).ret = false ∧ (h.getD b default).who = (s.1.getD k default).who ∧ (h.getD b default).op = (s.1.getD k default).op
  fin : ∀ k, k < s.1.length → (s.1.getD k default).fin = -1 ∨ ∃ f : Nat, (s.1.getD k default).fin = (f : Int) ∧ (s.1.getD k default).beg < (f : Int) ∧ f < i ∧ (h.getD f default).ret = true
  rise : ∀ j k, j < k → k < s.1.length → (s.1.getD j default).beg < (s.1.getD k default).beg
  opn : ∀ k, k < s.1.length → (s.1.getD k default).fin = -1 → iget s.2 (s.1.getD k default).who = some ((k : Int) + 1)
  map : ∀ t v, iget s.2 t = some v → ∃ k : Nat, v = (k : Int) + 1 ∧ k < s.1.length ∧ (s.1.getD k default).who = t ∧ (s.1.getD k default).fin = -1
  seq : ∀ j k, j < k → k < s.1.length → (s.1.getD j default).who = (s.1.getD k default).who → 0 ≤ (s.1.getD j default).fin ∧ (s.1.getD j default).fin < (s.1.getD k default).beg
  ne : 0 < i → s.1 ≠ []
  who : ∀ k, k < s.1.length → 0 ≤ (s.1.getD k default).who ∧ (s.1.getD k default).who < 6

theorem HInv.zero (h : List Evt) : HInv h 0 ([], []) where
  nod := by simp [INod]
  beg k hk := by simp at hk
  fin k hk := by simp at hk
  rise j k hj hk := by simp at hk
  opn k hk := by simp at hk
  map t v hv := by simp [iget] at hv
  seq j k hj hk := by simp at hk
  ne hi := by omega
  who k hk := by simp at hk

theorem rstep_cases {h : List Evt} {i : Nat} {x : Evt} {out : List Cl} {ms : List (Int × Int)} (I : HInv h i (out, ms)) {s' : List Cl × List (Int × Int)} (hs : rstep i x (out, ms) = some s') :
    0 ≤ x.who ∧ x.who < 6 ∧ ((x.ret = false ∧ iget ms x.who = none ∧ mayOpB x.op = true ∧ x.ans = ans0 ∧ s' = (out ++ [⟨x.who, i, -1, x.op, ans0⟩], iput ms x.who (out.length + 1))) ∨
      (x.ret = true ∧ ∃ k : Nat, k < out.length ∧ iget ms x.who = some ((k : Int) + 1) ∧ (out.getD k default).who = x.who ∧ (out.getD k default).fin = -1 ∧ (out.getD k default).op = x.op ∧
        s' = (out.set k { out.getD k default with fin := i, ans := x.ans }, idel ms x.who))) := by
  simp only [rstep] at hs
  split at hs
  · cases hs
  · rename_i hw
    refine ⟨by omega, by omega, ?_⟩
    split at hs
    · rename_i hret
      split at hs
      · cases hs
      · rename_i hc
        simp only [not_or, Option.some.injEq] at hc hs
        refine .inl ⟨hret, ?_, by simpa using hc.2.1, by simpa using hc.2.2, hs.symm⟩
        cases hg : iget ms x.who with
        | none => rfl
        | some v =>
          obtain ⟨k, rfl, _⟩ := I.map _ _ hg
          rw [hg] at hc
          simp at hc
          omega
    · rename_i hret
      split at hs
      · cases hs
      · rename_i hc
        simp only [not_or, Option.some.injEq] at hc hs
        refine .inr ⟨by simpa using hret, ?_⟩
        cases hg : iget ms x.who with
        | none => rw [hg] at hc; simp at hc
        | some v =>
          obtain ⟨k, rfl, hk, h1, h2⟩ := I.map _ _ hg
          rw [hg] at hc hs
          have e : (((k : Int) + 1) - 1).toNat = k := by omega
          simp only [Option.getD_some, e] at hc hs
          exact ⟨k, hk, rfl, h1, h2, by simpa using hc.2, hs.symm⟩

theorem HInv.step {h : List Evt} {i : Nat} {s s' : List Cl × List (Int × Int)} (hi : i < h.length) (I : HInv h i s) (hs : rstep i (h.getD i default) s = some s') : HInv h (i + 1) s' := by
  obtain ⟨out, ms⟩ := s
  obtain ⟨w0, w1, hc⟩ := rstep_cases I hs
  generalize hx : h.getD i default = x at *
  rcases hc with ⟨hret, hnone, hop, hans, rfl⟩ | ⟨hret, k0, hk0, hg0, hwho, hfin, hop, rfl⟩
  · have I1 := I.beg; have I2 := I.fin; have I3 := I.rise; have I4 := I.opn; have I5 := I.map; have I6 := I.seq; have I7 := I.who
    simp only at I1 I2 I3 I4 I5 I6 I7
    have hbeg : ∀ k, k < out.length → (out.getD k default).beg < (i : Int) := fun k hk => by obtain ⟨b, hb, e, _⟩ := I1 k hk; omega
    exact {
      nod := iput_nod I.nod _ _
      beg := fun k hk => by
        simp only [List.length_append, List.length_cons, List.length_nil] at hk
        simp only [gd_app]
        by_cases hkl : k < out.length
        · simp only [hkl, if_true]
          obtain ⟨b, hb, r⟩ := I1 k hkl
          exact ⟨b, by omega, r⟩
        · have e : k = out.length := by omega
          simp only [e, Nat.lt_irrefl, if_false, if_true]
          exact ⟨i, by omega, rfl, by rw [hx]; exact hret, by rw [hx], by rw [hx]⟩
      fin := fun k hk => by
        simp only [List.length_append, List.length_cons, List.length_nil] at hk
        simp only [gd_app]
        by_cases hkl : k < out.length
        · simp only [hkl, if_true]
          rcases I2 k hkl with hf | ⟨f, h1, h2, h3, h4⟩
          · exact .inl hf
          · exact .inr ⟨f, h1, h2, by omega, h4⟩
        · have e : k = out.length := by omega
          simp only [e, Nat.lt_irrefl, if_false, if_true]
          exact .inl trivial
      rise := fun j k hj hk => by
        simp only [List.length_append, List.length_cons, List.length_nil] at hk
        simp only [gd_app]
        by_cases hkl : k < out.length
        · have hjl : j < out.length := by omega
          simp only [hkl, hjl, if_true]
          exact I3 j k hj hkl
        · have e : k = out.length := by omega
          have hjl : j < out.length := by omega
          simp only [hjl, e, Nat.lt_irrefl, if_false, if_true]
          exact hbeg j hjl
      opn := fun k hk => by
        simp only [List.length_append, List.length_cons, List.length_nil] at hk
        simp only [gd_app]
        by_cases hkl : k < out.length
        · simp only [hkl, if_true]
          intro hf
          rw [iget_put]
          have := I4 k hkl hf
          rw [if_neg (fun e => by rw [e, hnone] at this; cases this)]
          exact this
        · have e : k = out.length := by omega
          simp only [e, Nat.lt_irrefl, if_false, if_true]
          intro _
          rw [iget_put, if_pos rfl]
      map := fun t v hv => by
        simp only at hv
        rw [iget_put] at hv
        split at hv
        · rename_i e
          simp only [Option.some.injEq] at hv
          exact ⟨out.length, hv.symm, by simp, by simp [gd_app, e], by simp [gd_app]⟩
        · obtain ⟨k, hk1, hk2, hk3, hk4⟩ := I5 t v hv
          exact ⟨k, hk1, by simp; omega, by simp only [gd_app, hk2, if_true]; exact hk3, by simp only [gd_app, hk2, if_true]; exact hk4⟩
      seq := fun j k hj hk => by
        simp only [List.length_append, List.length_cons, List.length_nil] at hk
        simp only [gd_app]
        by_cases hkl : k < out.length
        · have hjl : j < out.length := by omega
          simp only [hkl, hjl, if_true]
          exact I6 j k hj hkl
        · have e : k = out.length := by omega
          have hjl : j < out.length := by omega
          simp only [hjl, e, Nat.lt_irrefl, if_false, if_true]
          intro hw
          rcases I2 j hjl with hf | ⟨f, h1, h2, h3, h4⟩
          · have := I4 j hjl hf
            rw [hw, hnone] at this
            cases this
          · omega
      ne := fun _ => by simp
      who := fun k hk => by
        simp only [List.length_append, List.length_cons, List.length_nil] at hk
        simp only [gd_app]
        by_cases hkl : k < out.length
        · simp only [hkl, if_true]
          exact I7 k hkl
        · have e : k = out.length := by omega
          simp only [e, Nat.lt_irrefl, if_false, if_true]
          exact ⟨w0, w1⟩ }
  · have I1 := I.beg; have I2 := I.fin; have I3 := I.rise; have I4 := I.opn; have I5 := I.map; have I6 := I.seq; have I7 := I.who
    simp only at I1 I2 I3 I4 I5 I6 I7
    have fb : ∀ k, ((out.set k0 { out.getD k0 default with fin := (i : Int), ans := x.ans }).getD k default).beg = (out.getD k default).beg := fun k => by
      rw [gd_set _ _ _ _ hk0]; split
      · rename_i e; subst e; rfl
      · rfl
    have fw : ∀ k, ((out.set k0 { out.getD k0 default with fin := (i : Int), ans := x.ans }).getD k default).who = (out.getD k default).who := fun k => by
      rw [gd_set _ _ _ _ hk0]; split
      · rename_i e; subst e; rfl
      · rfl
    have fo : ∀ k, ((out.set k0 { out.getD k0 default with fin := (i : Int), ans := x.ans }).getD k default).op = (out.getD k default).op := fun k => by
      rw [gd_set _ _ _ _ hk0]; split
      · rename_i e; subst e; rfl
      · rfl
    have ff : ∀ k, ((out.set k0 { out.getD k0 default with fin := (i : Int), ans := x.ans }).getD k default).fin = if k = k0 then (i : Int) else (out.getD k default).fin := fun k => by
      rw [gd_set _ _ _ _ hk0]; split
      · rfl
      · rfl
    exact {
      nod := idel_nod I.nod _
      beg := fun k hk => by
        simp only [List.length_set] at hk
        simp only [fb, fw, fo]
        obtain ⟨b, hb, r⟩ := I1 k hk
        exact ⟨b, by omega, r⟩
      fin := fun k hk => by
        simp only [List.length_set] at hk
        simp only [fb, ff]
        by_cases hkk : k = k0
        · simp only [hkk, if_true]
          obtain ⟨b, hb, e, _⟩ := I1 k0 hk0
          exact .inr ⟨i, rfl, by omega, by omega, by rw [hx]; exact hret⟩
        · simp only [hkk, if_false]
          rcases I2 k hk with hf | ⟨f, h1, h2, h3, h4⟩
          · exact .inl hf
          · exact .inr ⟨f, h1, h2, by omega, h4⟩
      rise := fun j k hj hk => by
        simp only [List.length_set] at hk
        simp only [fb]
        exact I3 j k hj hk
      opn := fun k hk => by
        simp only [List.length_set] at hk
        simp only [fw, ff]
        by_cases hkk : k = k0
        · simp only [hkk, if_true]
          intro e
          omega
        · simp only [hkk, if_false]
          intro hf
          have h1 := I4 k hk hf
          rw [iget_del I.nod, if_neg (fun e => by
            rw [e] at h1
            rw [hg0, Option.some.injEq] at h1
            omega)]
          exact h1
      map := fun t v hv => by
        simp only at hv
        rw [iget_del I.nod] at hv
        split at hv
        · cases hv
        · rename_i hne
          obtain ⟨k, hk1, hk2, hk3, hk4⟩ := I5 t v hv
          have hkk : k ≠ k0 := fun e => by subst e; exact hne (hk3.symm.trans hwho)
          exact ⟨k, hk1, by simp [hk2], by simp only [fw]; exact hk3, by simp only [ff, hkk, if_false]; exact hk4⟩
      seq := fun j k hj hk => by
        simp only [List.length_set] at hk
        simp only [fw, fb, ff]
        intro hw
        have h1 := I6 j k hj hk hw
        by_cases hjj : j = k0
        · subst hjj
          rw [hfin] at h1
          omega
        · simp only [hjj, if_false]
          exact h1
      ne := fun _ => by
        intro e
        have : (out.set k0 { out.getD k0 default with fin := (i : Int), ans := x.ans }).length = 0 := by simp only at e; rw [e]; rfl
        simp only [List.length_set] at this
        omega
      who := fun k hk => by
        simp only [List.length_set] at hk
        simp only [fw]
        exact I7 k hk }

end Go.X
set_option linter.unusedVariables false
set_option linter.unusedSimpArgs false
set_option maxHeartbeats 20000000
set_option maxRecDepth 100000
namespace Go.X
open Go.Proofs.Tryd (prog)

noncomputable def mstep (x : Evt) (s : List Bool × List Opn) : Option (List Bool × List Opn) :=
  if x.who < 0 ∨ 6 ≤ x.who ∨ x.ret ≠ s.1.getD x.who.toNat false then none
  else if (x.ret = false ∧ (mayOpB x.op = false ∨ x.ans ≠ ans0)) ∨ (x.ret = true ∧ x.op ≠ s.2.getD x.who.toNat default) then none
  else some (s.1.set x.who.toNat (!x.ret), s.2.set x.who.toNat x.op)
end Go.X
