/- The program logic: regions whose order is drawn: the rule. -/
import Derived.Test.YthgppaccdlcaiaaXp
set_option linter.unusedVariables false
set_option linter.unusedSimpArgs false
set_option linter.unusedSectionVars false
namespace Go.X
open Go.RowKit

/-- Is the operation carried out, in this frame? -/
def Runs (ops : List Oper) (o : Oper) (fr : Fr) (b : Bool) : Prop :=
  match o.guard with
  | none => b = true
  | some (j, u) => ∃ d, gslot ops j = some d ∧ ((∃ c, fr d = .l (.bool c) ∧ b = decide (c = u)) ∨ (fr d = .tup [] ∧ b = false))

structure Plan (P : Program) (ops : List Oper) (fr : Fr) (n0 : Nat) (v : Nat → AV) (mem : (Nat → Bool) → Mem) : Prop where
  op : ∀ i o, ops[i]? = some o → ∃ b, Runs ops o (frT ops v fr i) b ∧ (b = false → v i = .tup []) ∧
    ∀ L, Closed ops L → L i = false → (∀ e ∈ bpreds o, L e = true) →
      (b = true → (mem L) (n0 + i) = none ∧ vopcG (fun F => F (n0 + i)) P o.op (frT ops v fr i) (mem L) fun x M' => x = v i ∧ (mem (ins L i)).le M') ∧ (b = false → (mem (ins L i)).le (mem L))

/-- The ids that are kept for the operations that are not yet done. -/
def resS (g : Gh) (n0 n : Nat) (L : Nat → Bool) (id : Nat) : Prop := g.res id ∨ ∃ j, j < n ∧ L j = false ∧ id = n0 + j

def DInv (g0 : Gh) (w0 : World) (n : Nat) (ops : List Oper) (v : Nat → AV) (fr : Fr) (n0 : Nat) (mem : (Nat → Bool) → Mem) (L : Nat → Bool) (a : Act) (w : World) : Prop :=
  ∃ g, Ev (g0.rsd (resS g0 n0 ops.length L)) w0 g w ∧ FrR g w n (frS ops v fr L ops.length) a ∧ Rel g (mem L) w

def listedF (l : Array Bool) : Nat → Bool := fun i => l.getD i false

theorem listedF_set {l : Array Bool} {i : Nat} (h : i < l.size) : listedF (l.setIfInBounds i true) = ins (listedF l) i := by
  funext j
  simp only [listedF, ins]
  by_cases hj : j = i
  · subst hj
    simp [h]
  · simp [Array.getElem?_setIfInBounds, Ne.symm hj, hj]

theorem readsOf_op {ops : List Oper} {o : Oper} {t : Nat} (h : Operand.tmp t ∈ o.op.operands.toList) : t ∈ readsOf ops o := by
  simp only [readsOf, List.mem_append, List.mem_filterMap]
  exact .inl ⟨_, h, rfl⟩
theorem readsOf_guard {ops : List Oper} {o : Oper} {j d : Nat} {u : Bool} (h : o.guard = some (j, u)) (hd : gslot ops j = some d) : d ∈ readsOf ops o := by
  simp [readsOf, h, hd]

section
variable {P : Program} {n : Nat} {ops : List Oper} {fr : Fr} {n0 : Nat} {v : Nat → AV} {mem : (Nat → Bool) → Mem} {g0 : Gh} {w0 : World}

theorem read_at (hd : drawOk ops = true) {L : Nat → Bool} (hc : Closed ops L) {i : Nat} {o : Oper} (ho : ops[i]? = some o) (hL : L i = false) (hp : ∀ e ∈ bpreds o, L e = true) {d : Nat} (hr : d ∈ readsOf ops o) :
    frS ops v fr L ops.length d = frT ops v fr i d := by
  have hi := (List.getElem?_eq_some_iff.1 ho).1
  have := frS_T (ops := ops) (v := v) (fr := fr) (L := L) (i := i) (d := d) ops.length fun j hj hdj => by
    rcases (drawOk_get hd ho).rd d hr j hj hdj with rfl | ⟨h1, h2⟩ | ⟨h1, h2⟩
    · simp [hL]
    · rw [anc_sound hc ho hp h2]; simp [h1]
    · have : ¬ L j = true := fun hLj => by
        have hjo : ops[j]? = some ops[j] := List.getElem?_eq_getElem hj
        have := anc_sound hc hjo (hc j _ hjo hLj) h2
        rw [hL] at this; cases this
      rw [Bool.eq_false_iff.2 this]
      have : ¬ j < i := by omega
      simp [this]
  rw [this, Nat.min_eq_right (by omega)]

theorem fr_ins (hd : drawOk ops = true) {L : Nat → Bool} (hc : Closed ops L) {i : Nat} {o : Oper} (ho : ops[i]? = some o) (hL : L i = false) :
    frS ops v fr (ins L i) ops.length = updO (frS ops v fr L ops.length) o.dst (v i) := by
  have hi := (List.getElem?_eq_some_iff.1 ho).1
  have hdo : dstOf ops i = o.dst := by simp [dstOf, ho]
  rw [frS_ins hi hL, hdo]
  intro j d hij h1 h2
  rw [hdo] at h1
  by_cases hj : j < ops.length
  · have hh := (drawOk_get hd ho).wr d h1 j hj hij h2
    refine Bool.eq_false_iff.2 fun hLj => ?_
    have hjo : ops[j]? = some ops[j] := List.getElem?_eq_getElem hj
    have := anc_sound hc hjo (hc j _ hjo hLj) hh
    rw [hL] at this; cases this
  · simp [dstOf, List.getElem?_eq_none (Nat.not_lt.1 hj)] at h2

theorem closed_ins {L : Nat → Bool} (hc : Closed ops L) {i : Nat} {o : Oper} (ho : ops[i]? = some o) (hp : ∀ e ∈ bpreds o, L e = true) : Closed ops (ins L i) := by
  intro j o' ho' hL e he
  simp only [ins, Bool.or_eq_true, decide_eq_true_eq] at hL ⊢
  rcases hL with rfl | hL
  · rw [ho, Option.some.injEq] at ho'
    subst ho'
    exact .inr (hp e he)
  · exact .inr (hc j o' ho' hL e he)

/-- One operation more. -/
theorem draw_step (hP : g0.P = P) (hok : opsOk n ops = true) (hd : drawOk ops = true) (pl : Plan P ops fr n0 v mem) (hn0 : ∀ id, n0 ≤ id → g0.blk id = none ∧ ¬ g0.res id)
    {Q : Exit → Act → World → Prop} {K : Act → World → Prop} {L : Nat → Bool} (hc : Closed ops L) {i : Nat} {o : Oper} (ho : ops[i]? = some o) (hL : L i = false) (hp : ∀ e ∈ bpreds o, L e = true) {a : Act} {w : World}
    (hI : DInv g0 w0 n ops v fr n0 mem L a w) (hk : ∀ a' w', DInv g0 w0 n ops v fr n0 mem (ins L i) a' w' → K a' w') : wpOp P ops.toArray Q i K a w := by
  obtain ⟨g, e, hF, hR⟩ := hI
  have hi := (List.getElem?_eq_some_iff.1 ho).1
  obtain ⟨b, hrun, hany, hop⟩ := pl.op i o ho
  obtain ⟨hT, hFf⟩ := hop L hc hL hp
  have hopok : operOk n o = true := List.all_eq_true.1 hok o (List.mem_of_getElem? ho)
  have hopnd : o.op.operands.toList.all (opndOk n) = true := by
    unfold operOk at hopok
    exact (Bool.and_eq_true _ _ ▸ hopok).1
  -- fewer ids are kept
  have hsub : ∀ id, resS g0 n0 ops.length (ins L i) id → resS g0 n0 ops.length L id ∧ id ≠ n0 + i := by
    rintro id (h | ⟨j, hj, hLj, rfl⟩)
    · exact ⟨.inl h, fun he => (hn0 id (by omega)).2 h⟩
    · simp only [ins, Bool.or_eq_false_iff, decide_eq_false_iff_not] at hLj
      exact ⟨.inr ⟨j, hj, hLj.2, rfl⟩, by omega⟩
  have hres : ∃ m, ∀ id, m ≤ id → ¬ resS g0 n0 ops.length (ins L i) id := by
    refine ⟨n0 + ops.length, fun id hid => ?_⟩
    rintro (h | ⟨j, hj, hLj, rfl⟩)
    · exact (hn0 id (by omega)).2 h
    · omega
  have e1 : Ev (g0.rsd (resS g0 n0 ops.length (ins L i))) w0 (g.rsd (resS g0 n0 ops.length (ins L i))) w :=
    ⟨e.w0, e.P, e.blk, e.fz, e.cell, rfl, fun id hr hb => e.rsv id (hsub id hr).1 hb⟩
  have hF1 : FrR (g.rsd (resS g0 n0 ops.length (ins L i))) w n _ a := hF.rsd _
  have hR1 := hR.rsd (resS g0 n0 ops.length (ins L i)) hres
  have hfree : (g.rsd (resS g0 n0 ops.length (ins L i))).blk (n0 + i) = none := e.rsv (n0 + i) (.inr ⟨i, hi, hL, rfl⟩) (hn0 _ (by omega)).1
  have hnres : ¬ (g.rsd (resS g0 n0 ops.length (ins L i))).res (n0 + i) := fun h => (hsub _ h).2 rfl
  have hfi := fr_ins (v := v) (fr := fr) hd hc ho hL
  have run : b = true → o.wp P a w K Q := fun hb => by
    obtain ⟨hM, hv⟩ := hT hb
    have hv' : vopcG (fun F => F (n0 + i)) P o.op (frS ops v fr L ops.length) (mem L) fun x M' => x = v i ∧ (mem (ins L i)).le M' := by
      refine vopcG_fr (fun x hx => ?_) hv
      cases x with
      | tmp t => exact (read_at hd hc ho hL hp (readsOf_op hx)).symm
      | const _ => rfl
      | global _ => rfl
      | func _ => rfl
    refine opx_wp (vopcG_sound (g := g.rsd (resS g0 n0 ops.length (ins L i))) (e.P.trans hP) hR1 (fun F hFn => ⟨n0 + i, hfree, hM, hnres, hFn⟩) hF1 hopnd hv') fun x c g' M' w' hx e' hc' hR' => ?_
    obtain ⟨rfl, hle⟩ := hx
    exact hk _ _ ⟨g', e1.trans e', by rw [hfi]; exact (hF1.ev e').put hc', hR'.le hle⟩
  have skip : b = false → K (a.put o.dst undef) w := fun hb =>
    hk _ _ ⟨_, e1, by rw [hfi, hany hb]; exact hF1.put (skip_conc _ _), hR1.le (hFf hb)⟩
  have hoa : ops.toArray[i]? = some o := by simpa using ho
  unfold wpOp
  rw [hoa]
  simp only
  unfold Runs at hrun
  split at hrun
  · rename_i hg
    rw [if_pos (by simp [Region.wanted, hg])]
    exact .inl (run hrun)
  · rename_i j u hg
    obtain ⟨d, hgs, ⟨cc, hfd, hbb⟩ | ⟨hfd, hbb⟩⟩ := hrun
    case inr =>
      have hy := yielded_skip hF hok hgs (by rw [read_at hd hc ho hL hp (readsOf_guard hg hgs)]; exact hfd)
      have hwt : Region.wanted o (yielded ops.toArray a.tmps) = false := by simp [Region.wanted, hg, hy]
      rw [if_neg (by rw [hwt]; simp)]
      exact skip hbb
    have hy := yielded_of hF hok hgs (b := cc) (by rw [read_at hd hc ho hL hp (readsOf_guard hg hgs)]; exact hfd)
    by_cases hcu : cc = u
    · subst hcu
      rw [if_pos (by simp [Region.wanted, hg, hy])]
      exact .inl (run (by simp [hbb]))
    · have hwt : Region.wanted o (yielded ops.toArray a.tmps) = false := by
        simp only [Region.wanted, hg, hy]
        revert hcu
        cases cc <;> cases u <;> simp
      rw [if_neg (by rw [hwt]; simp)]
      exact skip (by simp [hbb, hcu])

def left (l : Array Bool) (n : Nat) : Nat := (List.range n).countP fun i => !l.getD i false

theorem left_set {l : Array Bool} {n i : Nat} (hi : i < n) (hs : i < l.size) (h : l.getD i false = false) : left (l.setIfInBounds i true) n < left l n := by
  unfold left
  induction n with
  | zero => omega
  | succ n ih =>
    rw [List.range_succ, List.countP_append, List.countP_append]
    by_cases hin : i = n
    · subst hin
      have h1 : (List.range i).countP (fun j => !(l.setIfInBounds i true).getD j false) = (List.range i).countP (fun j => !l.getD j false) := by
        apply List.countP_congr
        intro j hj
        have : i ≠ j := by have := List.mem_range.1 hj; omega
        rw [getD_set_ne false this]
      rw [h1]
      have h2 : (l.setIfInBounds i true).getD i false = true := by simp [hs]
      have e1 : List.countP (fun j => !(l.setIfInBounds i true).getD j false) [i] = 0 := by simp only [List.countP_cons, List.countP_nil, h2]; rfl
      have e2 : List.countP (fun j => !l.getD j false) [i] = 1 := by simp only [List.countP_cons, List.countP_nil, h]; rfl
      rw [e1, e2]; omega
    · have ih := ih (by omega)
      have h1 : (l.setIfInBounds i true).getD n false = l.getD n false := getD_set_ne false hin
      have h2 : List.countP (fun j => !(l.setIfInBounds i true).getD j false) [n] = List.countP (fun j => !l.getD j false) [n] := by
        simp only [List.countP_cons, List.countP_nil, h1]
      rw [h2]
      omega

theorem draw_any (hP : g0.P = P) (hok : opsOk n ops = true) (hd : drawOk ops = true) (pl : Plan P ops fr n0 v mem) (hn0 : ∀ id, n0 ≤ id → g0.blk id = none ∧ ¬ g0.res id)
    {Q : Exit → Act → World → Prop} (hq : ∀ L, (∀ i, i < ops.length → L i = true) → ∀ a w, DInv g0 w0 n ops v fr n0 mem L a w → Q .normal a w) :
    ∀ (fuel : Nat) (listed : Array Bool) (a : Act) (w : World), listed.size = ops.length → left listed ops.length ≤ fuel → Closed ops (listedF listed) → DInv g0 w0 n ops v fr n0 mem (listedF listed) a w → wpAny P .any ops.toArray Q fuel listed a w := by
  -- if none is ready, all are done
  have alldone : ∀ listed : Array Bool, listed.size = ops.length → Region.ready .any ops.toArray listed = [] → ∀ i, i < ops.length → listedF listed i = true := by
    intro listed hs hr i
    induction i using Nat.strongRecOn with
    | _ i ih =>
      intro hi
      cases hli : listedF listed i with
      | true => rfl
      | false =>
        have ho : ops[i]? = some ops[i] := List.getElem?_eq_getElem hi
        have : i ∈ Region.ready .any ops.toArray listed := by
          rw [mem_ready]
          refine ⟨?_, ops[i], by simp, fun e he hb => ?_⟩
          · have hlt : i < listed.size := by omega
            simp only [listedF] at hli
            simp [hlt] at hli ⊢
            exact hli
          · have hep : e.on ∈ bpreds ops[i] := by
              simp only [bpreds, List.mem_map, List.mem_filter]
              exact ⟨e, ⟨by simpa using he, hb⟩, rfl⟩
            have hlt := (drawOk_get hd ho).lt _ hep
            exact ih e.on hlt (by omega)
        rw [hr] at this
        cases this
  have step : ∀ (listed : Array Bool) (a : Act) (w : World), listed.size = ops.length → Closed ops (listedF listed) → DInv g0 w0 n ops v fr n0 mem (listedF listed) a w → ∀ i ∈ Region.ready .any ops.toArray listed, ∀ K : Act → World → Prop,
      (∀ a' w', Closed ops (listedF (listed.setIfInBounds i true)) → DInv g0 w0 n ops v fr n0 mem (listedF (listed.setIfInBounds i true)) a' w' → left (listed.setIfInBounds i true) ops.length < left listed ops.length → K a' w') → wpOp P ops.toArray Q i K a w := by
    intro listed a w hs hc hI i hi K hk
    rw [mem_ready] at hi
    obtain ⟨hl, o, ho, hb⟩ := hi
    have ho : ops[i]? = some o := by simpa using ho
    have hlt : i < ops.length := (List.getElem?_eq_some_iff.1 ho).1
    have hLi : listed.getD i false = false := by
      have : i < listed.size := by omega
      simp [this] at hl ⊢
      exact hl
    have hp : ∀ e ∈ bpreds o, listedF listed e = true := by
      intro e he
      simp only [bpreds, List.mem_map, List.mem_filter] at he
      obtain ⟨x, ⟨hx, hbx⟩, rfl⟩ := he
      exact hb x (by simpa using hx) hbx
    have hset := listedF_set (l := listed) (i := i) (by omega)
    refine draw_step hP hok hd pl hn0 hc ho hLi hp hI fun a' w' h => hk a' w' ?_ ?_ (left_set hlt (by omega) hLi)
    · rw [hset]; exact closed_ins hc ho hp
    · rw [hset]; exact h
  intro fuel
  induction fuel with
  | zero =>
    intro listed a w hs hf hc hI
    have hnone : Region.ready .any ops.toArray listed = [] := by
      cases hr : Region.ready .any ops.toArray listed with
      | nil => rfl
      | cons i r =>
        have hi : i ∈ Region.ready .any ops.toArray listed := by rw [hr]; simp
        rw [mem_ready] at hi
        obtain ⟨hl, o, ho, hb⟩ := hi
        have ho : ops[i]? = some o := by simpa using ho
        have hlt : i < ops.length := (List.getElem?_eq_some_iff.1 ho).1
        have hLi : listed.getD i false = false := by
          have : i < listed.size := by omega
          simp [this] at hl ⊢
          exact hl
        have := left_set hlt (by omega) hLi
        omega
    exact ⟨hnone, hq _ (alldone listed hs hnone) a w hI⟩
  | succ fuel ih =>
    intro listed a w hs hf hc hI
    refine ⟨fun hnone => hq _ (alldone listed hs hnone) a w hI, fun i hi => step listed a w hs hc hI i hi _ fun a' w' h1 h2 h3 => ih _ a' w' (by simp [hs]) (by omega) h1 h2⟩

/-- The rule. -/
theorem xdraw {id : Nat} (hmix : P.follows .mixedOrders = true) (hok : opsOk n ops = true) (hd : drawOk ops = true) {K : Fr → Mem → Prop} {M : Mem}
    (h : ∀ n0, (∀ j, n0 ≤ j → M j = none) → ∃ v mem Mf, Plan P ops fr n0 v mem ∧ (∀ L, (∀ i, L i = false) → (mem L).le M) ∧ (∀ L, (∀ i, i < ops.length → L i = true) → Mem.le Mf (mem L)) ∧ K (frT ops v fr ops.length) Mf) : XDraw P n id ops.toArray K fr M := by
  intro g0 w0 a0 hP hF hR
  obtain ⟨n0, hn⟩ := hR.fin
  obtain ⟨v, mem, Mf, pl, hbeg, hend, hk⟩ := h n0 fun j hj => (hn j hj).2.1
  obtain ⟨ed, hRd⟩ := rel_drew hR
  have hfil : listedF (Array.replicate ops.toArray.size false) = fun _ => false := by
    funext i
    simp only [listedF, List.size_toArray]
    by_cases hi : i < ops.length <;> simp [hi]
  refine wp_region_any hmix (draw_any (P := P) (n := n) (fr := fr) (v := v) (mem := mem) (n0 := n0) (g0 := g0) (w0 := w0) hP hok hd pl (fun id hid => ⟨(hn id hid).1, (hn id hid).2.2⟩) (fun L hL a w hI => ?_) ops.toArray.size _ a0 w0.drew (by simp) ?_ ?_ ?_)
  · obtain ⟨g, e, hF', hR'⟩ := hI
    rw [frS_all ops.length hL] at hF'
    have hno : ∀ id, resS g0 n0 ops.length L id ↔ g0.res id := fun id => by
      refine ⟨fun h => ?_, fun h => .inl h⟩
      rcases h with h | ⟨j, hj, hLj, _⟩
      · exact h
      · rw [hL j hj] at hLj; cases hLj
    refine ⟨.normal, _, Mf, g.rsd g0.res, rfl, hk, ⟨e.w0, e.P, e.blk, e.fz, e.cell, rfl, fun id hr hb => e.rsv id ((hno id).2 hr) hb⟩, hF'.rsd _, (hR'.rsd _ ⟨n0, fun id hid => (hn id hid).2.2⟩).le (hend L hL)⟩
  · unfold left
    refine Nat.le_trans (List.countP_le_length) (by simp)
  · rw [hfil]
    intro i o ho h
    cases h
  · rw [hfil]
    refine ⟨g0.rsd (resS g0 n0 ops.length fun _ => false), ⟨ed.w0, ed.P, ed.blk, ed.fz, ed.cell, rfl, fun id _ hb => hb⟩, ?_, ?_⟩
    · rw [frS_none ops.length fun _ _ => rfl]
      exact (hF.ev ed).rsd _
    · refine (hRd.rsd _ ⟨n0 + ops.length, fun id hid => ?_⟩).le (hbeg _ fun _ => rfl)
      rintro (h | ⟨j, hj, hLj, rfl⟩)
      · exact (hn id (by omega)).2.2 h
      · omega
end

end Go.X
