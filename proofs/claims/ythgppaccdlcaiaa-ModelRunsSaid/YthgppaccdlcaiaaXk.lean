/- The program logic: regions, code, functions. -/
import Derived.Test.YthgppaccdlcaiaaXj
set_option linter.unusedVariables false
set_option linter.unusedSimpArgs false
set_option linter.unusedSectionVars false
namespace Go.X
open Go.RowKit

/-! ### regions whose order is the text's -/
/-- The slot of the operation that guards another one. -/
def gslot (ops : List Oper) (j : Nat) : Option Nat := (ops[j]?).bind (·.dst)
/-- Is the guarded operation carried out? -/
def gK (t : AV) (u : Bool) (A B : Prop) : Prop := match t with | .l (.bool b) => (b = u → A) ∧ (b = (!u) → B) | .tup [] => B | _ => False
theorem gK_skip (u : Bool) (A B : Prop) : gK (.tup []) u A B = B := rfl
/-- What a slot holds whose operation was passed over. -/
theorem conc_skip {g : Gh} {w : World} {v : Value} (h : ConcA g w (.tup []) v) : v = undef := by
  cases h with
  | tup vs hl h =>
    have : vs = [] := by cases vs with | nil => rfl | cons _ _ => simp at hl
    subst this; rfl
theorem skip_conc (g : Gh) (w : World) : ConcA g w (.tup []) undef := .tup [] rfl (fun i x v h => by simp at h)
theorem gK_true_true (A B : Prop) : gK (.l (.bool true)) true A B = A := by simp [gK]
theorem gK_false_false (A B : Prop) : gK (.l (.bool false)) false A B = A := by simp [gK]
theorem gK_true_false (A B : Prop) : gK (.l (.bool true)) false A B = B := by simp [gK]
theorem gK_false_true (A B : Prop) : gK (.l (.bool false)) true A B = B := by simp [gK]
theorem gK_congr {t t' : AV} {u : Bool} {A B : Prop} (h : t = t') : gK t u A B = gK t' u A B := by rw [h]

def vops (P : Program) (ops : List Oper) : List Oper → (Fr → Mem → Prop) → Fr → Mem → Prop
  | [], K, fr, M => K fr M
  | o :: rest, K, fr, M =>
    match o.guard with
    | none => vopc P o.op fr M fun v M' => vops P ops rest K (updO fr o.dst v) M'
    | some (j, u) => match gslot ops j with
      | some d => gK (fr d) u (vopc P o.op fr M fun v M' => vops P ops rest K (updO fr o.dst v) M') (vops P ops rest K (updO fr o.dst (.tup [])) M)
      | none => False

theorem vops_nil (P : Program) (ops : List Oper) (K : Fr → Mem → Prop) (fr : Fr) (M : Mem) : vops P ops [] K fr M = K fr M := rfl
theorem vops_plain (P : Program) (ops : List Oper) (dst : Option Tmp) (op : Op) (type : TypeId) (pos : String) (after : Array Edge) (rest : List Oper) (K : Fr → Mem → Prop) (fr : Fr) (M : Mem) :
    vops P ops (⟨dst, op, type, pos, after, none⟩ :: rest) K fr M = vopc P op fr M fun v M' => vops P ops rest K (updO fr dst v) M' := rfl
theorem vops_guard (P : Program) (ops : List Oper) (dst : Option Tmp) (op : Op) (type : TypeId) (pos : String) (after : Array Edge) (j : Nat) (u : Bool) (rest : List Oper) (K : Fr → Mem → Prop) (fr : Fr) (M : Mem) :
    vops P ops (⟨dst, op, type, pos, after, some (j, u)⟩ :: rest) K fr M = match gslot ops j with
      | some d => gK (fr d) u (vopc P op fr M fun v M' => vops P ops rest K (updO fr dst v) M') (vops P ops rest K (updO fr dst (.tup [])) M)
      | none => False := rfl

def opsOk (n : Nat) (ops : List Oper) : Bool := ops.all (operOk n)

theorem yielded_of {g : Gh} {w : World} {n : Nat} {fr : Fr} {a : Act} (hF : FrR g w n fr a) {ops : List Oper} (hok : opsOk n ops = true) {j d : Nat} (hd : gslot ops j = some d) {b : Bool} (hb : fr d = .l (.bool b)) : yielded ops.toArray a.tmps j = some b := by
  unfold gslot at hd
  cases ho : ops[j]? with
  | none => rw [ho] at hd; cases hd
  | some o =>
    rw [ho] at hd
    simp only [Option.bind_some] at hd
    have hop : operOk n o = true := List.all_eq_true.1 hok o (List.mem_of_getElem? ho)
    have hdn : d < n := by
      unfold operOk at hop
      rw [hd] at hop
      have h2 := (Bool.and_eq_true _ _ ▸ hop).2
      exact of_decide_eq_true h2
    have hv := hF.get d hdn
    rw [hb] at hv
    have hvb := conc_bool hv
    have hs : d < a.tmps.size := by rw [hF.size]; exact hdn
    have hget : a.tmps[d]? = some (.bool b) := by
      have : a.tmps.getD d undef = a.tmps[d] := by simp [hs]
      rw [this] at hvb
      rw [Array.getElem?_eq_getElem hs, hvb]
    unfold yielded
    simp only [List.getElem?_toArray, ho, Option.bind_some, hd, hget]

theorem yielded_skip {g : Gh} {w : World} {n : Nat} {fr : Fr} {a : Act} (hF : FrR g w n fr a) {ops : List Oper} (hok : opsOk n ops = true) {j d : Nat} (hd : gslot ops j = some d) (hb : fr d = .tup []) : yielded ops.toArray a.tmps j = none := by
  unfold gslot at hd
  cases ho : ops[j]? with
  | none => rw [ho] at hd; cases hd
  | some o =>
    rw [ho] at hd
    simp only [Option.bind_some] at hd
    have hop : operOk n o = true := List.all_eq_true.1 hok o (List.mem_of_getElem? ho)
    have hdn : d < n := by
      unfold operOk at hop
      rw [hd] at hop
      have h2 := (Bool.and_eq_true _ _ ▸ hop).2
      exact of_decide_eq_true h2
    have hv := hF.get d hdn
    rw [hb] at hv
    have hvb := conc_skip hv
    have hs : d < a.tmps.size := by rw [hF.size]; exact hdn
    have hget : a.tmps[d]? = some undef := by
      have : a.tmps.getD d undef = a.tmps[d] := by simp [hs]
      rw [this] at hvb
      rw [Array.getElem?_eq_getElem hs, hvb]
    unfold yielded
    simp only [List.getElem?_toArray, ho, Option.bind_some, hd, hget]
    rfl

theorem vops_sound {P : Program} {n : Nat} {ops : List Oper} (hok : opsOk n ops = true) {K : Fr → Mem → Prop} {Qc : Exit → Act → World → Prop} (rest : List Oper) : ∀ (g : Gh) (w : World) (fr : Fr) (a : Act) (M : Mem), rest.all (operOk n) = true → g.P = P →
    FrR g w n fr a → Rel g M w → vops P ops rest K fr M → (∀ g' w' fr' a' M', K fr' M' → Ev g w g' w' → FrR g' w' n fr' a' → Rel g' M' w' → Qc .normal a' w') → wpList P ops.toArray Qc rest a w := by
  induction rest with
  | nil =>
    intro g w fr a M _ hP hF hR h hq
    exact hq g w fr a M h (Ev.refl _ _) hF hR
  | cons o rest ih =>
    intro g w fr a M hrok hP hF hR h hq
    simp only [List.all_cons, Bool.and_eq_true] at hrok
    have hop : o.op.operands.toList.all (opndOk n) = true := by
      have := hrok.1
      unfold operOk at this
      exact (Bool.and_eq_true _ _ ▸ this).1
    have run : vopc P o.op fr M (fun v M' => vops P ops rest K (updO fr o.dst v) M') → o.wp P a w (wpList P ops.toArray Qc rest) Qc := fun hv =>
      opx_wp (vopc_sound hP hR hF hop hv) fun v c g' M' w' hk e hc hR' => ih g' w' _ _ M' hrok.2 (e.P.trans hP) ((hF.ev e).put hc) hR' hk
        fun g'' w'' fr' a' M'' hk' e' => hq g'' w'' fr' a' M'' hk' (e.trans e')
    have skip : vops P ops rest K (updO fr o.dst (.tup [])) M → wpList P ops.toArray Qc rest (a.put o.dst undef) w := fun hv => ih g w _ _ M hrok.2 hP (hF.put (skip_conc _ _)) hR hv hq
    simp only [vops] at h
    unfold wpList
    split at h
    · rename_i hg
      rw [if_pos (by simp [Region.wanted, hg])]
      exact .inl (run h)
    · rename_i j u hg
      split at h
      · rename_i d hd
        unfold gK at h
        split at h
        · rename_i b hb
          have hy := yielded_of hF hok hd hb
          by_cases hbu : b = u
          · subst hbu
            rw [if_pos (by simp [Region.wanted, hg, hy])]
            exact .inl (run (h.1 rfl))
          · have hbu' : b = !u := by revert hbu; cases b <;> cases u <;> simp
            have hwt : Region.wanted o (yielded ops.toArray a.tmps) = false := by
              simp only [Region.wanted, hg, hy]
              revert hbu
              cases b <;> cases u <;> simp
            rw [if_neg (by rw [hwt]; simp)]
            exact skip (h.2 hbu')
        · rename_i hb
          have hy := yielded_skip hF hok hd hb
          have hwt : Region.wanted o (yielded ops.toArray a.tmps) = false := by simp [Region.wanted, hg, hy]
          rw [if_neg (by rw [hwt]; simp)]
          exact skip h
        · exact h.elim
      · exact h.elim

/-! ### code -/
inductive XE where
  | normal | exit (id : Nat) | ret
  deriving DecidableEq

def toE : XE → Exit
  | .normal => .normal
  | .exit id => .exit id
  | .ret => .ret

def Post (P : Program) (n : Nat) (g : Gh) (w : World) (Q : XE → Fr → Mem → Prop) : Exit → Act → World → Prop := fun e a' w' => ∃ x fr' M' g', e = toE x ∧ Q x fr' M' ∧ Ev g w g' w' ∧ FrR g' w' n fr' a' ∧ Rel g' M' w'

/-- What is claimed of code. -/
def XWp (P : Program) (n : Nat) (c : Code) (Q : XE → Fr → Mem → Prop) (fr : Fr) (M : Mem) : Prop :=
  ∀ g w a, g.P = P → FrR g w n fr a → Rel g M w → c.wp P (Post P n g w Q) a w

theorem XWp.mono {P : Program} {n : Nat} {c : Code} {Q Q' : XE → Fr → Mem → Prop} {fr : Fr} {M : Mem} (h : XWp P n c Q fr M) (hq : ∀ e fr M, Q e fr M → Q' e fr M) : XWp P n c Q' fr M :=
  fun g w a hP hF hR => wp_mono (h g w a hP hF hR) fun e a' w' ⟨x, fr', M', g', h1, h2, h3⟩ => ⟨x, fr', M', g', h1, hq _ _ _ h2, h3⟩
theorem XWp.le {P : Program} {n : Nat} {c : Code} {Q : XE → Fr → Mem → Prop} {fr : Fr} {M M' : Mem} (h : XWp P n c Q fr M) (hle : M.le M') : XWp P n c Q fr M' :=
  fun g w a hP hF hR => h g w a hP hF (hR.le hle)

def seqQ (K : Fr → Mem → Prop) (Q : XE → Fr → Mem → Prop) : XE → Fr → Mem → Prop
  | .normal => K
  | .exit id => Q (.exit id)
  | .ret => Q .ret
theorem seqQ_normal (K : Fr → Mem → Prop) (Q : XE → Fr → Mem → Prop) : seqQ K Q .normal = K := rfl
theorem seqQ_exit (K : Fr → Mem → Prop) (Q : XE → Fr → Mem → Prop) (id : Nat) : seqQ K Q (.exit id) = Q (.exit id) := rfl
theorem seqQ_ret (K : Fr → Mem → Prop) (Q : XE → Fr → Mem → Prop) : seqQ K Q .ret = Q .ret := rfl
def blockQ (id : Nat) (Q : XE → Fr → Mem → Prop) : XE → Fr → Mem → Prop
  | .normal => Q .normal
  | .exit id' => if id' = id then Q .normal else Q (.exit id')
  | .ret => Q .ret
theorem blockQ_normal (id : Nat) (Q : XE → Fr → Mem → Prop) : blockQ id Q .normal = Q .normal := rfl
theorem blockQ_exit (id : Nat) (Q : XE → Fr → Mem → Prop) (id' : Nat) : blockQ id Q (.exit id') = if id' = id then Q .normal else Q (.exit id') := rfl
theorem blockQ_ret (id : Nat) (Q : XE → Fr → Mem → Prop) : blockQ id Q .ret = Q .ret := rfl

/-- A loop, a region that draws: left as they are, for rules of their own. -/
def XLoop (P : Program) (n : Nat) (body : Code) (Q : XE → Fr → Mem → Prop) (fr : Fr) (M : Mem) : Prop := XWp P n (.loop body) Q fr M
def XDraw (P : Program) (n : Nat) (id : Nat) (ops : Array Oper) (K : Fr → Mem → Prop) (fr : Fr) (M : Mem) : Prop := XWp P n (.region id ops true) (seqQ K fun _ _ _ => False) fr M

theorem XLoop_congr {P : Program} {n : Nat} {body : Code} {Q : XE → Fr → Mem → Prop} {fr fr' : Fr} {M M' : Mem} (h : fr = fr') (h' : M = M') : XLoop P n body Q fr M = XLoop P n body Q fr' M' := by rw [h, h']
theorem XDraw_congr {P : Program} {n id : Nat} {ops : Array Oper} {K : Fr → Mem → Prop} {fr fr' : Fr} {M M' : Mem} (h : fr = fr') (h' : M = M') : XDraw P n id ops K fr M = XDraw P n id ops K fr' M' := by rw [h, h']

def vc (P : Program) (n : Nat) : Code → (XE → Fr → Mem → Prop) → Fr → Mem → Prop
  | .skip, Q, fr, M => Q .normal fr M
  | .ret, Q, fr, M => Q .ret fr M
  | .exit id, Q, fr, M => Q (.exit id) fr M
  | .seq a b, Q, fr, M => vc P n a (seqQ (vc P n b Q) Q) fr M
  | .cond c a b, Q, fr, M => condK (ev fr c) (vc P n a Q fr M) (vc P n b Q fr M)
  | .block id b, Q, fr, M => vc P n b (blockQ id Q) fr M
  | .loop b, Q, fr, M => XLoop P n b Q fr M
  | .region id ops draw, Q, fr, M => match draw with
    | false => vops P ops.toList ops.toList (fun fr M => Q .normal fr M) fr M
    | true => XDraw P n id ops (fun fr M => Q .normal fr M) fr M
  | _, _, _, _ => False

/-- Every slot that is named lies within the frame. -/
def codeOk (n : Nat) : Code → Bool
  | .seq a b => codeOk n a && codeOk n b
  | .cond c a b => opndOk n c && codeOk n a && codeOk n b
  | .block _ b => codeOk n b
  | .loop b => codeOk n b
  | .region _ ops _ => opsOk n ops.toList
  | _ => true

theorem vc_sound {P : Program} {n : Nat} : ∀ (c : Code), codeOk n c = true → ∀ (Q : XE → Fr → Mem → Prop) (fr : Fr) (M : Mem), vc P n c Q fr M → XWp P n c Q fr M
  | .skip, _, Q, fr, M, h => fun g w a hP hF hR => wp_skip ⟨.normal, fr, M, g, rfl, h, Ev.refl _ _, hF, hR⟩
  | .ret, _, Q, fr, M, h => fun g w a hP hF hR => wp_ret ⟨.ret, fr, M, g, rfl, h, Ev.refl _ _, hF, hR⟩
  | .exit id, _, Q, fr, M, h => fun g w a hP hF hR => wp_exit ⟨.exit id, fr, M, g, rfl, h, Ev.refl _ _, hF, hR⟩
  | .seq x y, hok, Q, fr, M, h => fun g w a hP hF hR => by
    simp only [codeOk, Bool.and_eq_true] at hok
    refine wp_seq (wp_mono (vc_sound x hok.1 _ fr M h g w a hP hF hR) ?_)
    rintro e a' w' ⟨x', fr', M', g', rfl, hq, he, hF', hR'⟩
    cases x' with
    | normal => exact wp_mono (vc_sound y hok.2 Q fr' M' hq g' w' a' (he.P.trans hP) hF' hR') fun e a'' w'' ⟨x, fr'', M'', g'', h1, h2, h3, h4, h5⟩ => ⟨x, fr'', M'', g'', h1, h2, he.trans h3, h4, h5⟩
    | exit id => exact ⟨.exit id, fr', M', g', rfl, hq, he, hF', hR'⟩
    | ret => exact ⟨.ret, fr', M', g', rfl, hq, he, hF', hR'⟩
  | .cond c x y, hok, Q, fr, M, h => fun g w a hP hF hR => by
    simp only [codeOk, Bool.and_eq_true] at hok
    simp only [vc] at h
    unfold condK at h
    split at h
    · rename_i b hb
      have hv := hF.eval hok.1.1
      rw [hb] at hv
      have hvb := conc_bool hv
      cases b with
      | true => exact wp_cond_true hvb (vc_sound x hok.1.2 Q fr M (h.1 rfl) g w a hP hF hR)
      | false => exact wp_cond_false hvb (vc_sound y hok.2 Q fr M (h.2 rfl) g w a hP hF hR)
    · exact h.elim
  | .block id b, hok, Q, fr, M, h => fun g w a hP hF hR => by
    refine wp_block (wp_mono (vc_sound b hok _ fr M h g w a hP hF hR) ?_)
    rintro e a' w' ⟨x', fr', M', g', rfl, hq, he, hF', hR'⟩
    cases x' with
    | normal => exact ⟨.normal, fr', M', g', rfl, hq, he, hF', hR'⟩
    | ret => exact ⟨.ret, fr', M', g', rfl, hq, he, hF', hR'⟩
    | exit id' =>
      simp only [toE, Exit.inBlock]
      simp only [blockQ] at hq
      split
      · rename_i hid
        rw [if_pos hid] at hq
        exact ⟨.normal, fr', M', g', rfl, hq, he, hF', hR'⟩
      · rename_i hid
        rw [if_neg hid] at hq
        exact ⟨.exit id', fr', M', g', rfl, hq, he, hF', hR'⟩
  | .loop b, _, Q, fr, M, h => h
  | .region id ops false, hok, Q, fr, M, h => fun g w a hP hF hR => by
    obtain ⟨l⟩ := ops
    exact wp_region_lit (vops_sound (n := n) hok l g w fr a M hok hP hF hR h fun g' w' fr' a' M' hk he hF' hR' => ⟨.normal, fr', M', g', rfl, hk, he, hF', hR'⟩)
  | .region id ops true, _, Q, fr, M, h => fun g w a hP hF hR => wp_mono (h g w a hP hF hR) (by
      rintro e a' w' ⟨x', fr', M', g', rfl, hq, he, hF', hR'⟩
      cases x' with
      | normal => exact ⟨.normal, fr', M', g', rfl, hq, he, hF', hR'⟩
      | ret => exact hq.elim
      | exit id => exact hq.elim)
  | .rangeFunc _ _ _ _, _, _, _, _, h => h.elim
  | .scope _, _, _, _, _, h => h.elim
  | .label _, _, _, _, _, h => h.elim
  | .goto _, _, _, _, _, h => h.elim
  | .refuse _, _, _, _, _, h => h.elim

/-! ### a loop, by an invariant with a measure -/
theorem xloop {P : Program} {n : Nat} {body : Code} (hok : codeOk n body = true) {Q : XE → Fr → Mem → Prop} (I : Nat → Fr → Mem → Prop) {fr : Fr} {M : Mem} (k0 : Nat) (h0 : I k0 fr M)
    (hstep : ∀ k fr M, I k fr M → vc P n body (seqQ (fun fr' M' => ∃ k' M'', k' < k ∧ M''.le M' ∧ I k' fr' M'') Q) fr M) : XLoop P n body Q fr M := by
  intro g0 w0 a0 hP0 hF0 hR0
  have hstep' : ∀ k fr M, I k fr M → XWp P n body (seqQ (fun fr' M' => ∃ k' M'', k' < k ∧ M''.le M' ∧ I k' fr' M'') Q) fr M := fun k fr M h => vc_sound body hok _ fr M (hstep k fr M h)
  let J : Nat → Act → World → Prop := fun k a w => ∃ g fr M, g.P = P ∧ FrR g w n fr a ∧ Rel g M w ∧ Ev g0 w0 g w ∧ I k fr M
  have round : ∀ k a w, J k a w → body.wp P (Exit.then (fun a' w' => ∃ k', k' < k ∧ J k' a' w') (Post P n g0 w0 Q)) a w := by
    rintro k a w ⟨g, fr', M', hP, hF, hR, hev, hI⟩
    refine wp_mono (hstep' _ fr' M' hI g w a hP hF hR) ?_
    rintro e a' w' ⟨x', fr'', M'', g', rfl, hq, he', hF', hR'⟩
    cases x' with
    | normal =>
      obtain ⟨k', M3, hlt, hle, hI'⟩ := hq
      exact ⟨k', hlt, g', fr'', M3, he'.P.trans hP, hF', hR'.le hle, hev.trans he', hI'⟩
    | exit id => exact ⟨.exit id, fr'', M'', g', rfl, hq, hev.trans he', hF', hR'⟩
    | ret => exact ⟨.ret, fr'', M'', g', rfl, hq, hev.trans he', hF', hR'⟩
  intro b kk cs
  have key : ∀ k a w, J k a w → ∃ e a' w', Post P n g0 w0 Q e a' w' ∧ Arrives P (lone (b.at a (.code body :: .inLoop body :: kk)) cs w) b kk cs e a' w' := by
    intro k
    induction k using Nat.strongRecOn with
    | _ k ih =>
      intro a w hJ
      obtain ⟨e, a₁, w₁, hq, harr⟩ := round k a w hJ b (.inLoop body :: kk) cs
      cases e with
      | normal =>
        obtain ⟨k', hlt, hJ'⟩ := hq
        obtain ⟨e₂, a₂, w₂, hq₂, harr₂⟩ := ih k' hlt a₁ w₁ hJ'
        exact ⟨e₂, a₂, w₂, hq₂, .of_steps (Steps.trans harr (.one step_inLoop)) harr₂⟩
      | exit id => exact ⟨_, a₁, w₁, hq, .pass (x := .inLoop body) rfl (fun _ _ => .inl (by simp)) harr⟩
      | goto l => exact ⟨_, a₁, w₁, hq, .pass (x := .inLoop body) rfl (fun _ _ => .inl (by simp)) harr⟩
      | ret => exact ⟨_, a₁, w₁, hq, .pass (x := .inLoop body) rfl (fun _ _ => .inl (by simp)) harr⟩
      | panic ch => exact ⟨_, a₁, w₁, hq, .pass (x := .inLoop body) rfl (fun _ _ => .inl (by simp)) harr⟩
      | outgrown => exact ⟨_, a₁, w₁, hq, .pass (x := .inLoop body) rfl (fun _ _ => .inl (by simp)) harr⟩
  obtain ⟨e, a', w', hq, harr⟩ := key k0 a0 w0 ⟨g0, fr, M, hP0, hF0, hR0, Ev.refl _ _, h0⟩
  exact ⟨e, a', w', hq, .of_steps (.one step_loop) harr⟩

end Go.X
