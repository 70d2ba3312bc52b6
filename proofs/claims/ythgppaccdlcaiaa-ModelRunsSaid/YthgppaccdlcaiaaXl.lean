/- The program logic: functions' entries and ends; what is never written again. -/
import Derived.Test.YthgppaccdlcaiaaXk
set_option linter.unusedVariables false
set_option linter.unusedSimpArgs false
set_option linter.unusedSectionVars false
namespace Go.X
open Go.RowKit

/-- What may be said of a value and the memory at the end, once the ghost has been turned. -/
def XFin (P : Program) (v : AV) (M : Mem) (K : AV → Mem → Prop) : Prop := ∀ g w c, g.P = P → ConcA g w v c → Rel g M w → ∃ g' v' M', K v' M' ∧ Ev g w g' w ∧ ConcA g' w v' c ∧ Rel g' M' w
theorem XFin_congr {P : Program} {v v' : AV} {M M' : Mem} {K : AV → Mem → Prop} (h : v = v') (h' : M = M') : XFin P v M K = XFin P v' M' K := by rw [h, h']

theorem XFin.le {P : Program} {v : AV} {M M' : Mem} {K : AV → Mem → Prop} (hle : M'.le M) (h : K v M') : XFin P v M K := fun g w c hP hc hR => ⟨g, v, M', h, Ev.refl _ _, hc, hR.le hle⟩
theorem XFin.here {P : Program} {v : AV} {M : Mem} {K : AV → Mem → Prop} (h : K v M) : XFin P v M K := XFin.le (Mem.le_refl M) h

/-- A slice of a live block, as a slice that is never written again. -/
def frzL (id : Nat) (rows : List (List Lf)) : Lf → Lf
  | .ms i off len => if i = id ∧ off + len ≤ rows.length then .sl ((rows.drop off).take len) else .ms i off len
  | x => x
def frz1 (id : Nat) (rows : List (List Lf)) : AV → AV
  | .l x => .l (frzL id rows x)
  | .agg cs => .agg (cs.map (frzL id rows))
  | x => x
def frzA (id : Nat) (rows : List (List Lf)) : AV → AV
  | .tup vs => .tup (vs.map (frz1 id rows))
  | x => frz1 id rows x

theorem frzL_conc {g g' : Gh} {w : World} {id b sz cr : Nat} {rows : List (List Lf)} (hx : g.blk id = some (b, sz, cr)) (e : Ev g w g' w)
    (hf : ∀ off len cap, off + len ≤ rows.length → len ≤ cap → Conc g' w (.sl ((rows.drop off).take len)) (.slice (some ⟨b, off * sz, none⟩) len cap)) {x : Lf} {v : Value} (h : Conc g w x v) : Conc g' w (frzL id rows x) v := by
  unfold frzL
  split
  · rename_i i off len
    split
    · rename_i hc
      obtain ⟨rfl, hol⟩ := hc
      cases h with
      | ms hb h1 h2 =>
        rw [hx, Option.some.injEq, Prod.mk.injEq, Prod.mk.injEq] at hb
        obtain ⟨rfl, rfl, rfl⟩ := hb
        exact hf off len _ hol h1
    · exact h.ev e
  · exact h.ev e

theorem frz1_conc {g g' : Gh} {w : World} {id b sz cr : Nat} {rows : List (List Lf)} (hx : g.blk id = some (b, sz, cr)) (e : Ev g w g' w)
    (hf : ∀ off len cap, off + len ≤ rows.length → len ≤ cap → Conc g' w (.sl ((rows.drop off).take len)) (.slice (some ⟨b, off * sz, none⟩) len cap)) {x : AV} {v : Value} (h : ConcA g w x v) : ConcA g' w (frz1 id rows x) v := by
  cases h with
  | l h => exact .l (frzL_conc hx e hf h)
  | agg vs h =>
    refine .agg vs ⟨by simp [h.1], fun i x v hx' hv => ?_⟩
    rw [List.getElem?_map] at hx'
    rename_i cs
    cases hc : cs[i]? with
    | none => rw [hc] at hx'; cases hx'
    | some y =>
      rw [hc] at hx'
      simp only [Option.map_some, Option.some.injEq] at hx'
      subst hx'
      exact frzL_conc hx e hf (h.2 i y v hc hv)
  | tup vs hl h => exact .tup vs hl fun i x v a b => (h i x v a b).ev e
  | any v => exact .any v

theorem frzA_conc {g g' : Gh} {w : World} {id b sz cr : Nat} {rows : List (List Lf)} (hx : g.blk id = some (b, sz, cr)) (e : Ev g w g' w)
    (hf : ∀ off len cap, off + len ≤ rows.length → len ≤ cap → Conc g' w (.sl ((rows.drop off).take len)) (.slice (some ⟨b, off * sz, none⟩) len cap)) {x : AV} {v : Value} (h : ConcA g w x v) : ConcA g' w (frzA id rows x) v := by
  unfold frzA
  split
  · rename_i xs
    cases h with
    | tup vs hl h =>
      refine .tup vs (by simp [hl]) fun i x v hx' hv => ?_
      rw [List.getElem?_map] at hx'
      cases hc : xs[i]? with
      | none => rw [hc] at hx'; cases hx'
      | some y =>
        rw [hc] at hx'
        simp only [Option.map_some, Option.some.injEq] at hx'
        subst hx'
        exact frz1_conc hx e hf (h i y v hc hv)
  · exact frz1_conc hx e hf h

theorem blk_of {g : Gh} {M : Mem} {w : World} (hR : Rel g M w) {id T keep : Nat} {rows : List (List Lf)} (hM : M id = some (.cells T rows keep)) : ∃ b sz cr, g.blk id = some (b, sz, cr) := by
  obtain ⟨b, sz, cr, _, h, _⟩ := hR.blk id _ hM
  exact ⟨b, sz, cr, h⟩

theorem XFin.frz {P : Program} {v : AV} {M : Mem} {K : AV → Mem → Prop} (id : Nat) {T keep : Nat} {rows : List (List Lf)} (hM : M id = some (.cells T rows keep)) (h : XFin P (frzA id rows v) (M.set id (.cells T rows (max keep rows.length))) K) : XFin P v M K := by
  intro g w c hP hc hR
  obtain ⟨b, sz, cr, hx⟩ := blk_of hR hM
  obtain ⟨e, rel, hf⟩ := rel_frz hR hM hx
  obtain ⟨g', v', M', hK, e', hc', hR'⟩ := h _ w c (e.P.trans hP) (frzA_conc hx e hf hc) rel
  exact ⟨g', v', M', hK, e.trans e', hc', hR'⟩

/-- The same ahead of a call. -/
theorem XCalls.frz {P : Program} {f : FuncId} {args : List AV} {M : Mem} {K : AV → Mem → Prop} (id : Nat) {T keep : Nat} {rows : List (List Lf)} (hM : M id = some (.cells T rows keep)) (h : XCalls P f (args.map (frzA id rows)) (M.set id (.cells T rows (max keep rows.length))) K) : XCalls P f args M K := by
  refine ⟨h.1, fun g w vs hP hA hR => ?_⟩
  obtain ⟨b, sz, cr, hx⟩ := blk_of hR hM
  obtain ⟨e, rel, hf⟩ := rel_frz hR hM hx
  refine (h.2 _ w vs (e.P.trans hP) ⟨by simp [hA.1], fun i x v hx' hv => ?_⟩ rel).mono fun e1 w' ⟨rv, v, g', M', h1, h2, h3, h4⟩ => ⟨rv, v, g', M', h1, h2, e.trans h3, h4⟩
  rw [List.getElem?_map] at hx'
  cases hc : args[i]? with
  | none => rw [hc] at hx'; cases hx'
  | some y =>
    rw [hc] at hx'
    simp only [Option.map_some, Option.some.injEq] at hx'
    subst hx'
    exact frzA_conc hx e hf (hA.2 i y v hc hv)

/-- The same within another block's cells. -/
theorem rel_frz_in {g : Gh} {M : Mem} {w : World} (hR : Rel g M w) {id out T keep To keepo : Nat} {rows rowso : List (List Lf)} (hM : M id = some (.cells T rows keep)) (ho : M out = some (.cells To rowso keepo)) (hne : id ≠ out) :
    ∃ g', Ev g w g' w ∧ Rel g' ((M.set id (.cells T rows (max keep rows.length))).set out (.cells To (rowso.map fun r => r.map (frzL id rows)) keepo)) w := by
  obtain ⟨b, sz, cr, hx⟩ := blk_of hR hM
  obtain ⟨e, rel, hf⟩ := rel_frz hR hM hx
  refine ⟨_, e, ?_⟩
  have ho' : (M.set id (.cells T rows (max keep rows.length))) out = some (.cells To rowso keepo) := by rw [Mem.set_app, if_neg hne]; exact ho
  exact {
    blk := fun i bk hbk => by
      rw [Mem.set_app] at hbk
      by_cases hi : out = i
      · subst hi
        rw [if_pos rfl, Option.some.injEq] at hbk
        subst hbk
        obtain ⟨b', sz', cr', cur, g1, g2, g3, g4, g5, g6, g7, g8, g9⟩ := hR.blk out _ ho
        obtain ⟨b2, sz2, cr2, cur2, k1, k2, k3, k4, k5, k6, k7, k8, k9⟩ := rel.blk out _ ho'
        have hg1 := e.blk _ _ g1
        rw [k1, Option.some.injEq, Prod.mk.injEq, Prod.mk.injEq] at hg1
        obtain ⟨rfl, rfl, rfl⟩ := hg1
        rw [g3, Option.some.injEq, Obj.cells.injEq] at k3
        obtain ⟨rfl, _, _⟩ := k3
        refine ⟨b2, sz2, cr2, cur, k1, k2, g3, k4, by simpa using k5, ⟨fun r hr => ?_, fun i j r x hr hx' => ?_⟩, k7, k8, k9⟩
        · obtain ⟨r0, hr0, rfl⟩ := List.mem_map.1 hr
          simp [k6.1 r0 hr0]
        · rw [List.getElem?_map] at hr
          cases hrr : rowso[i]? with
          | none => rw [hrr] at hr; cases hr
          | some r0 =>
            rw [hrr] at hr
            simp only [Option.map_some, Option.some.injEq] at hr
            subst hr
            rw [List.getElem?_map] at hx'
            cases hxx : r0[j]? with
            | none => rw [hxx] at hx'; cases hx'
            | some y =>
              rw [hxx] at hx'
              simp only [Option.map_some, Option.some.injEq] at hx'
              subst hx'
              obtain ⟨u, hu, hcu⟩ := g6.2 i j r0 y hrr hxx
              exact ⟨u, hu, frzL_conc hx e hf hcu⟩
      · rw [if_neg hi] at hbk
        exact rel.blk i bk hbk
    inj := fun i j bi bj hi hj => by
      have key : ∀ k bk, ((M.set id (.cells T rows (max keep rows.length))).set out (.cells To (rowso.map fun r => r.map (frzL id rows)) keepo)) k = some bk → ∃ bk', (M.set id (.cells T rows (max keep rows.length))) k = some bk' := fun k bk hk => by
        rw [Mem.set_app] at hk
        by_cases hi : out = k
        · subst hi; exact ⟨_, ho'⟩
        · rw [if_neg hi] at hk; exact ⟨_, hk⟩
      obtain ⟨b1, h1⟩ := key i bi hi
      obtain ⟨b2, h2⟩ := key j bj hj
      exact rel.inj i j b1 b2 h1 h2
    lt := rel.lt
    fz := rel.fz
    fin := by
      obtain ⟨n, hn⟩ := rel.fin
      refine ⟨n, fun i hi => ⟨(hn i hi).1, ?_, (hn i hi).2.2⟩⟩
      rw [Mem.set_app]
      by_cases hio : out = i
      · subst hio; have := (hn out hi).2.1; rw [ho'] at this; cases this
      · rw [if_neg hio]; exact (hn i hi).2.1
    below := rel.below }

theorem XCalls.frz_in {P : Program} {f : FuncId} {args : List AV} {M : Mem} {K : AV → Mem → Prop} (id out : Nat) {T keep To keepo : Nat} {rows rowso : List (List Lf)} (hM : M id = some (.cells T rows keep)) (ho : M out = some (.cells To rowso keepo)) (hne : id ≠ out)
    (h : XCalls P f args ((M.set id (.cells T rows (max keep rows.length))).set out (.cells To (rowso.map fun r => r.map (frzL id rows)) keepo)) K) : XCalls P f args M K := by
  refine ⟨h.1, fun g w vs hP hA hR => ?_⟩
  obtain ⟨g', e, rel⟩ := rel_frz_in hR hM ho hne
  exact (h.2 _ w vs (e.P.trans hP) ⟨hA.1, fun i x v a b => (hA.2 i x v a b).ev e⟩ rel).mono fun e1 w' ⟨rv, v, g', M', h1, h2, h3, h4⟩ => ⟨rv, v, g', M', h1, h2, e.trans h3, h4⟩

/-! ### a function's end, and its entry -/
def retA1 (P : Program) (fr : Fr) (M : Mem) : ResultVar → Option AV
  | .tmp t => some (fr t)
  | .cell a t => loadA P M t (fr a)
def retL (P : Program) (fr : Fr) (M : Mem) : List ResultVar → Option (List AV)
  | [] => some []
  | r :: rs => match retA1 P fr M r, retL P fr M rs with
    | some v, some vs => some (v :: vs)
    | _, _ => none
def retA (P : Program) (rs : List ResultVar) (fr : Fr) (M : Mem) : Option AV :=
  match rs with
  | [r] => retA1 P fr M r
  | rs => (retL P fr M rs).map .tup

def retQ (P : Program) (rs : List ResultVar) (K : AV → Mem → Prop) : XE → Fr → Mem → Prop
  | .exit _, _, _ => False
  | .normal, fr, M => optK (retA P rs fr M) fun v => XFin P v M K
  | .ret, fr, M => optK (retA P rs fr M) fun v => XFin P v M K
theorem retQ_normal (P : Program) (rs : List ResultVar) (K : AV → Mem → Prop) (fr : Fr) (M : Mem) : retQ P rs K .normal fr M = optK (retA P rs fr M) fun v => XFin P v M K := rfl
theorem retQ_ret (P : Program) (rs : List ResultVar) (K : AV → Mem → Prop) (fr : Fr) (M : Mem) : retQ P rs K .ret fr M = optK (retA P rs fr M) fun v => XFin P v M K := rfl

def rvOk (n : Nat) : ResultVar → Bool
  | .tmp t => decide (t < n)
  | .cell a _ => decide (a < n)

def resRun (P : Program) (a : Array Value) : ResultVar → Sem Value
  | .tmp t => pure (a.getD t undef)
  | .cell x t => do loadVar t (← asAddr (a.getD x undef))

theorem run_ret1 {P : Program} {g : Gh} {M : Mem} {w : World} (hR : Rel g M w) {n : Nat} {fr : Fr} {a : Act} (hF : FrR g w n fr a) {r : ResultVar} (hok : rvOk n r = true) {v : AV} (h : retA1 P fr M r = some v) :
    ∃ c, (resRun P a.tmps r).run P w = .ok c w ∧ ConcA g w v c := by
  cases r with
  | tmp t =>
    simp only [retA1, Option.some.injEq] at h
    subst h
    exact ⟨_, rfl, hF.get t (by simpa [rvOk] using hok)⟩
  | cell x t =>
    simp only [retA1] at h
    have hx := hF.get x (by simpa [rvOk] using hok)
    obtain ⟨c, hr, hc⟩ := run_loadA (P := P) hR hx h
    refine ⟨c, ?_, hc⟩
    simp only [resRun]
    generalize a.tmps.getD x undef = cx at hx hr
    unfold loadA at h
    split at h
    · rename_i i cells hti hfx
      rw [hfx] at hx
      cases hx with
      | l hx =>
        obtain ⟨b, o, rfl, _⟩ := conc_rp hx
        simpa [Instr.loadAt, Instr.sureAddr, asAddr] using hr
    · rename_i i id r c hti hfx
      rw [hfx] at hx
      cases hx with
      | l hx =>
        cases hx with
        | ptr hb => simpa [Instr.loadAt, Instr.sureAddr, asAddr] using hr
    · cases h

theorem run_retL {P : Program} {g : Gh} {M : Mem} {w : World} (hR : Rel g M w) {n : Nat} {fr : Fr} {a : Act} (hF : FrR g w n fr a) : ∀ (rs : List ResultVar) (vs : List AV), rs.all (rvOk n) = true → retL P fr M rs = some vs →
    ∃ cs : List Value, (rs.mapM (resRun P a.tmps)).run P w = .ok cs w ∧ vs.length = cs.length ∧ ∀ (i : Nat) (x : AV) (v : Value), vs[i]? = some x → cs[i]? = some v → ConcA g w x v
  | [], vs, _, h => by
    simp only [retL, Option.some.injEq] at h
    subst h
    exact ⟨[], by simp, rfl, fun i x v hx => by simp at hx⟩
  | r :: rs, vs, hok, h => by
    simp only [List.all_cons, Bool.and_eq_true] at hok
    simp only [retL] at h
    split at h
    · rename_i v vs' hv hvs
      simp only [Option.some.injEq] at h
      subst h
      obtain ⟨c, hr, hc⟩ := run_ret1 (P := P) hR hF hok.1 hv
      obtain ⟨cs, hrs, hl, hcs⟩ := run_retL hR hF rs vs' hok.2 hvs
      refine ⟨c :: cs, by simp [List.mapM_cons, hr, hrs], by simp [hl], fun i x v hx hv => ?_⟩
      cases i with
      | zero => simp only [List.getElem?_cons_zero, Option.some.injEq] at hx hv; subst hx; subst hv; exact hc
      | succ i => exact hcs i x v (by simpa using hx) (by simpa using hv)
    · cases h

theorem run_results {P : Program} {g : Gh} {M : Mem} {w : World} (hR : Rel g M w) {n : Nat} {fr : Fr} {a : Act} (hF : FrR g w n fr a) {fn : Func} (hok : fn.results.toList.all (rvOk n) = true) {v : AV} (h : retA P fn.results.toList fr M = some v) :
    ∃ c, (results fn a.tmps).run P w = .ok c w ∧ ConcA g w v c := by
  have key : ∀ cs : List Value, (fn.results.toList.mapM (resRun P a.tmps)).run P w = .ok cs w → (results fn a.tmps).run P w = .ok (if h : cs.length = 1 then cs[0] else .tuple cs.toArray) w := fun cs hcs => by
    have : (results fn a.tmps) = (do let vs ← fn.results.mapM (resRun P a.tmps); pure (if h : vs.size = 1 then vs[0] else .tuple vs)) := by
      unfold results
      have he : (fun r : ResultVar => match r with
          | .tmp t => pure (a.tmps.getD t undef)
          | .cell x t => do loadVar t (← asAddr (a.tmps.getD x undef)) : ResultVar → Sem Value) = resRun P a.tmps := by
        funext r
        cases r <;> rfl
      rw [← he]
      rfl
    rw [this, Array.mapM_eq_mapM_toList]
    simp [hcs]
  unfold retA at h
  split at h
  · rename_i r hrs
    obtain ⟨c, hr, hc⟩ := run_ret1 (P := P) hR hF (by rw [hrs] at hok; simpa using hok) h
    refine ⟨c, ?_, hc⟩
    rw [key [c] (by rw [hrs]; simp [List.mapM_cons, hr])]
    rfl
  · rename_i hne
    cases hl : retL P fr M fn.results.toList with
    | none => rw [hl] at h; cases h
    | some vs =>
      rw [hl] at h
      simp only [Option.map_some, Option.some.injEq] at h
      subst h
      obtain ⟨cs, hrs, hlen, hcs⟩ := run_retL (P := P) hR hF _ vs hok hl
      refine ⟨_, key cs hrs, ?_⟩
      have hvl : vs.length = fn.results.toList.length := by
        have : ∀ (rs : List ResultVar) (vs : List AV), retL P fr M rs = some vs → vs.length = rs.length := by
          intro rs
          induction rs with
          | nil => intro vs h; simp [retL] at h; simp [← h]
          | cons r rs ih =>
            intro vs h
            simp only [retL] at h
            split at h
            · rename_i v vs' _ hvs
              simp only [Option.some.injEq] at h
              subst h
              simp [ih vs' hvs]
            · cases h
        exact this _ _ hl
      have h1 : ¬ cs.length = 1 := by
        rw [← hlen, hvl]
        intro h1
        obtain ⟨r, hr⟩ := List.length_eq_one_iff.1 h1
        exact hne r hr
      rw [dif_neg h1]
      exact .tup cs hlen hcs

/-- A function's contract, out of its code. -/
theorem xcalls_intro {P : Program} {f : FuncId} {fn : Func} (hf : P.funcs[f]? = some fn) {c : Code} (hb : fn.body = some c) (hbo : bodyOk P f = true) {n : Nat} (hn : fn.ntmps = n) {rs : List ResultVar} (hrs : fn.results.toList = rs) (hok : (codeOk n c && rs.all (rvOk n)) = true) {args : List AV} {M : Mem} {K : AV → Mem → Prop} (hargs : args.length ≤ n)
    (h : vc P n c (retQ P rs K) (argFr args) M) : XCalls P f args M K := by
  subst hn
  subst hrs
  refine ⟨hbo, fun g w vs hP hA hR => ?_⟩
  simp only [Bool.and_eq_true] at hok
  have hsz : vs.size = args.length := hA.1.symm
  have hF : FrR g w fn.ntmps (argFr args) { tmps := vs ++ Array.replicate (fn.ntmps - vs.size) undef, defers := [] } := by
    refine ⟨rfl, by simp; omega, fun i hi => ?_⟩
    unfold argFr
    by_cases hia : i < args.length
    · have hiv : i < vs.size := by omega
      have h1 : args.getD i .any = args[i] := by simp [hia]
      have h2 : (vs ++ Array.replicate (fn.ntmps - vs.size) undef).getD i undef = vs[i] := by
        have : i < (vs ++ Array.replicate (fn.ntmps - vs.size) undef).size := by simp; omega
        rw [Array.getD_eq_getD_getElem?, Array.getElem?_append_left hiv, Array.getElem?_eq_getElem hiv]
        rfl
      rw [h1, h2]
      exact hA.2 i _ _ (List.getElem?_eq_getElem hia) (Array.getElem?_eq_getElem hiv)
    · have : args.getD i .any = .any := by simp [Nat.le_of_not_lt hia]
      rw [this]
      exact .any _
  refine calls_of_wp hf hb (wp_mono (vc_sound c hok.1 _ _ M h g w _ hP hF hR) ?_)
  rintro e a' w' ⟨x, fr', M', g', rfl, hq, he, hF', hR'⟩
  have fin : optK (retA P fn.results.toList fr' M') (fun v => XFin P v M' K) → a'.defers = [] ∧ ∃ v, (results fn a'.tmps).run P w' = .ok v w' ∧ ∃ rv u g'' M'', Ending.returned v = .returned rv ∧ K u M'' ∧ Ev g w g'' w' ∧ ConcA g'' w' u rv ∧ Rel g'' M'' w' := fun hq => by
    obtain ⟨v, hv, hfin⟩ := optK_elim hq
    obtain ⟨c, hr, hc⟩ := run_results (P := P) hR' hF' hok.2 hv
    obtain ⟨g'', v', M'', hK, e'', hc'', hR''⟩ := hfin g' w' c (he.P.trans hP) hc hR'
    exact ⟨hF'.defers, c, hr, c, v', g'', M'', rfl, hK, he.trans e'', hc'', hR''⟩
  cases x with
  | normal => exact fin hq
  | ret => exact fin hq
  | exit id => exact hq.elim

end Go.X
