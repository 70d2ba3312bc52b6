/- The program logic: steps of the ghost alone: cells are frozen, nil slices become slices without rows. -/
import Derived.Test.YthgppaccdlcaiaaXv
set_option linter.unusedVariables false
set_option linter.unusedSimpArgs false
set_option linter.unusedSectionVars false
namespace Go.X
open Go.RowKit

theorem TOk_nil (AI : List Nat) (n0 : Nat) : TOk [] AI n0 := fun j id h => by cases h
theorem TOk_cons {T : List (Nat × Nat)} {AI : List Nat} {n0 j id : Nat} (h : id < n0 ∨ ∃ k, k ∈ AI ∧ k < j ∧ id = n0 + k) (hr : TOk T AI n0) : TOk ((j, id) :: T) AI n0 := fun j' id' h' => by
  simp only [tOf] at h'
  split at h'
  · rename_i e
    subst e
    simp only [Option.some.injEq] at h'
    subst h'
    exact h
  · exact hr j' id' h'

/-- A smaller memory, id by id. -/
theorem le_set2 {A M : Mem} {id : Nat} {b : Blk} (hM : M id = some b) (h : ∀ i, i ≠ id → ∀ x, A i = some x → M i = some x) : (A.set id b).le M := fun i x hx => by
  rw [Mem.set_app] at hx
  by_cases hi : id = i
  · subst hi; rw [if_pos rfl] at hx; rw [hM]; exact hx
  · rw [if_neg hi] at hx; exact h i (fun e => hi e.symm) x hx

/-- What stands for a world by M stands for it by M', too. -/
def GStep (M M' : Mem) : Prop := ∀ g w, Rel g M w → ∃ g', Ev g w g' w ∧ Rel g' M' w
theorem GStep.le {M M' : Mem} (h : M'.le M) : GStep M M' := fun g w hR => ⟨g, Ev.refl _ _, hR.le h⟩
theorem GStep.trans {A B C : Mem} (h : GStep A B) (h' : GStep B C) : GStep A C := fun g w hR => by
  obtain ⟨g1, e1, r1⟩ := h g w hR
  obtain ⟨g2, e2, r2⟩ := h' g1 w r1
  exact ⟨g2, e1.trans e2, r2⟩
theorem GStep.frz_in {M : Mem} {id out T keep To keepo : Nat} {rows rowso : List (List Lf)} (hM : M id = some (.cells T rows keep)) (ho : M out = some (.cells To rowso keepo)) (hne : id ≠ out) :
    GStep M ((M.set id (.cells T rows (max keep rows.length))).set out (.cells To (rowso.map fun r => r.map (frzL id rows)) keepo)) := fun g w hR => rel_frz_in hR hM ho hne
theorem GStep.wk {M : Mem} {out To keepo : Nat} {rowso : List (List Lf)} (ho : M out = some (.cells To rowso keepo)) : GStep M (M.set out (.cells To (rowso.map fun r => r.map wkL) keepo)) := by
  intro g w hR
  refine ⟨g, Ev.refl _ _, ?_⟩
  have key : ∀ k bk, (M.set out (.cells To (rowso.map fun r => r.map wkL) keepo)) k = some bk → ∃ bk', M k = some bk' := fun k bk hk => by
    rw [Mem.set_app] at hk
    by_cases hi : out = k
    · subst hi; exact ⟨_, ho⟩
    · rw [if_neg hi] at hk; exact ⟨_, hk⟩
  exact {
    blk := fun i bk hbk => by
      rw [Mem.set_app] at hbk
      by_cases hi : out = i
      · subst hi
        rw [if_pos rfl, Option.some.injEq] at hbk
        subst hbk
        obtain ⟨b', sz', cr', cur, g1, g2, g3, g4, g5, g6, g7, g8, g9⟩ := hR.blk out _ ho
        refine ⟨b', sz', cr', cur, g1, g2, g3, g4, by simpa using g5, ⟨fun r hr => ?_, fun i j r x hr hx' => ?_⟩, g7, g8, g9⟩
        · obtain ⟨r0, hr0, rfl⟩ := List.mem_map.1 hr
          simp [g6.1 r0 hr0]
        · rw [List.getElem?_map] at hr
          obtain ⟨r0, hr0, rfl⟩ := Option.map_eq_some_iff.1 hr
          rw [List.getElem?_map] at hx'
          obtain ⟨y, hy, rfl⟩ := Option.map_eq_some_iff.1 hx'
          obtain ⟨u, hu, hcu⟩ := g6.2 i j r0 y hr0 hy
          exact ⟨u, hu, wkL_conc hcu⟩
      · rw [if_neg hi] at hbk
        exact hR.blk i bk hbk
    inj := fun i j bi bj hi hj => by
      obtain ⟨b1, h1⟩ := key i bi hi
      obtain ⟨b2, h2⟩ := key j bj hj
      exact hR.inj i j b1 b2 h1 h2
    lt := hR.lt
    fz := hR.fz
    fin := by
      obtain ⟨n, hn⟩ := hR.fin
      refine ⟨n, fun i hi => ⟨(hn i hi).1, ?_, (hn i hi).2.2⟩⟩
      rw [Mem.set_app]
      by_cases hio : out = i
      · subst hio; have := (hn out hi).2.1; rw [ho] at this; cases this
      · rw [if_neg hio]; exact (hn i hi).2.1
    below := hR.below }

theorem XCalls.gs {P : Program} {f : FuncId} {args : List AV} {M M' : Mem} {K : AV → Mem → Prop} (h : GStep M M') (hx : XCalls P f args M' K) : XCalls P f args M K := by
  refine ⟨hx.1, fun g w vs hP hA hR => ?_⟩
  obtain ⟨g', e, rel⟩ := h g w hR
  exact (hx.2 _ w vs (e.P.trans hP) ⟨hA.1, fun i x v a b => (hA.2 i x v a b).ev e⟩ rel).mono fun e1 w' ⟨rv, v, g', M', h1, h2, h3, h4⟩ => ⟨rv, v, g', M', h1, h2, e.trans h3, h4⟩
theorem XFin.gs {P : Program} {v : AV} {M M' : Mem} {K : AV → Mem → Prop} (h : GStep M M') (hx : XFin P v M' K) : XFin P v M K := fun g w c hP hc hR => by
  obtain ⟨g', e, rel⟩ := h g w hR
  obtain ⟨g2, v', M2, h1, h2, h3, h4⟩ := hx g' w c (e.P.trans hP) (hc.ev e) rel
  exact ⟨g2, v', M2, h1, e.trans h2, h3, h4⟩
theorem XWp.gs {P : Program} {n : Nat} {c : Code} {Q : XE → Fr → Mem → Prop} {fr : Fr} {M M' : Mem} (h : GStep M M') (hx : XWp P n c Q fr M') : XWp P n c Q fr M := fun g w a hP hF hR => by
  obtain ⟨g', e, rel⟩ := h g w hR
  exact wp_mono (hx g' w a (e.P.trans hP) (hF.ev e) rel) fun ex a' w' ⟨x, fr', M2, g2, h1, h2, h3, h4, h5⟩ => ⟨x, fr', M2, g2, h1, h2, e.trans h3, h4, h5⟩
theorem loopI_gs {P : Program} {n : Nat} {body : Code} {Q : XE → Fr → Mem → Prop} {fr : Fr} {M M' : Mem} (h : GStep M M') (hx : XLoop P n body Q fr M') : @loopI P n body fr M ⟨Q⟩ := loopI_of (XWp.gs h hx)
theorem finI_gs {P : Program} {v : AV} {M M' : Mem} {K : AV → Mem → Prop} (h : GStep M M') (hx : @finI P v M' ⟨K⟩) : @finI P v M ⟨K⟩ := XFin.gs h hx

/-- A loop; after a round the ghost may step. -/
theorem xloopG {P : Program} {n : Nat} {body : Code} (hok : codeOk n body = true) {Q : XE → Fr → Mem → Prop} (I : Nat → Fr → Mem → Prop) {fr : Fr} {M : Mem} (k0 : Nat) (h0 : I k0 fr M)
    (hstep : ∀ k fr M, I k fr M → vc P n body (seqQ (fun fr' M' => ∃ k' M'', k' < k ∧ GStep M' M'' ∧ I k' fr' M'') Q) fr M) : @loopI P n body fr M ⟨Q⟩ := by
  refine loopI_of ?_
  intro g0 w0 a0 hP0 hF0 hR0
  have hstep' : ∀ k fr M, I k fr M → XWp P n body (seqQ (fun fr' M' => ∃ k' M'', k' < k ∧ GStep M' M'' ∧ I k' fr' M'') Q) fr M := fun k fr M h => vc_sound body hok _ fr M (hstep k fr M h)
  let J : Nat → Act → World → Prop := fun k a w => ∃ g fr M, g.P = P ∧ FrR g w n fr a ∧ Rel g M w ∧ Ev g0 w0 g w ∧ I k fr M
  have round : ∀ k a w, J k a w → body.wp P (Exit.then (fun a' w' => ∃ k', k' < k ∧ J k' a' w') (Post P n g0 w0 Q)) a w := by
    rintro k a w ⟨g, fr', M', hP, hF, hR, hev, hI⟩
    refine wp_mono (hstep' _ fr' M' hI g w a hP hF hR) ?_
    rintro e a' w' ⟨x', fr'', M'', g', rfl, hq, he', hF', hR'⟩
    cases x' with
    | normal =>
      obtain ⟨k', M3, hlt, hgs, hI'⟩ := hq
      obtain ⟨g'', e'', rel⟩ := hgs g' w' hR'
      exact ⟨k', hlt, g'', fr'', M3, (e''.P.trans he'.P).trans hP, hF'.ev e'', rel, (hev.trans he').trans e'', hI'⟩
    | exit id => exact ⟨.exit id, fr'', M'', g', rfl, hq, hev.trans he', hF', hR'⟩
    | ret => exact ⟨.ret, fr'', M'', g', rfl, hq, hev.trans he', hF', hR'⟩
  intro b kk cs
  have key : ∀ k a w, J k a w → ∃ e a' w', Post P n g0 w0 Q e a' w' ∧ Arrives P (lone (b.at a (.code body :: .inLoop body :: kk)) cs w) b kk cs e a' w' := by
    intro k
    induction k using Nat.strongRecOn with
    | _ k ih =>
      intro a w hJ
      obtain ⟨e, a₁, w₁, hq, harr⟩ := round k a w hJ b (.inLoop body :: kk) cs
      cases e with
      | normal =>
        obtain ⟨k', hlt, hJ'⟩ := hq
        obtain ⟨e₂, a₂, w₂, hq₂, harr₂⟩ := ih k' hlt a₁ w₁ hJ'
        exact ⟨e₂, a₂, w₂, hq₂, .of_steps (Steps.trans harr (.one step_inLoop)) harr₂⟩
      | exit id => exact ⟨_, a₁, w₁, hq, .pass (x := .inLoop body) rfl (fun _ _ => .inl (by simp)) harr⟩
      | goto l => exact ⟨_, a₁, w₁, hq, .pass (x := .inLoop body) rfl (fun _ _ => .inl (by simp)) harr⟩
      | ret => exact ⟨_, a₁, w₁, hq, .pass (x := .inLoop body) rfl (fun _ _ => .inl (by simp)) harr⟩
      | panic ch => exact ⟨_, a₁, w₁, hq, .pass (x := .inLoop body) rfl (fun _ _ => .inl (by simp)) harr⟩
      | outgrown => exact ⟨_, a₁, w₁, hq, .pass (x := .inLoop body) rfl (fun _ _ => .inl (by simp)) harr⟩
  obtain ⟨e, a', w', hq, harr⟩ := key k0 a0 w0 ⟨g0, fr, M, hP0, hF0, hR0, Ev.refl _ _, h0⟩
  exact ⟨e, a', w', hq, .of_steps (.one step_loop) harr⟩
end Go.X
