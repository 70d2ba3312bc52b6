/- The program logic: literals, make, clear, operators, conversions, maps. -/
import Derived.Test.YthgppaccdlcaiaaXg
set_option linter.unusedVariables false
set_option linter.unusedSimpArgs false
set_option linter.unusedSectionVars false
namespace Go.X
open Go.RowKit

/-! ### struct and slice literals -/

def fillA (place : Nat → Option (Nat × Nat)) (cells : List Lf) : List (Nat × AV) → Option (List Lf)
  | [] => some cells
  | (i, v) :: rest =>
    match place i, avCells v with
    | some (off, size), some vs => if vs.length = size ∧ off + vs.length ≤ cells.length then fillA place (overw cells off vs) rest else none
    | _, _ => none

theorem fillA_nil (place : Nat → Option (Nat × Nat)) (cells : List Lf) : fillA place cells [] = some cells := rfl
theorem fillA_cons (place : Nat → Option (Nat × Nat)) (cells : List Lf) (i : Nat) (v : AV) (rest : List (Nat × AV)) : fillA place cells ((i, v) :: rest) =
    match place i, avCells v with
    | some (off, size), some vs => if vs.length = size ∧ off + vs.length ≤ cells.length then fillA place (overw cells off vs) rest else none
    | _, _ => none := rfl

theorem foldl_set (vs : List Value) : ∀ (k off : Nat) (cs : Array Value), off + k + vs.length ≤ cs.size →
    ((vs.zipIdx k).foldl (fun cs (x : Value × Nat) => cs.setIfInBounds (off + x.2) x.1) cs).toList = cs.toList.take (off + k) ++ vs ++ cs.toList.drop (off + k + vs.length) := by
  induction vs with
  | nil => intro k off cs h; simp
  | cons v vs ih =>
    intro k off cs h
    simp only [List.zipIdx_cons, List.foldl_cons]
    rw [ih (k + 1) off _ (by simp at h ⊢; omega)]
    simp only [List.length_cons] at h
    rw [Array.toList_setIfInBounds]
    apply List.ext_getElem?
    intro j
    have h1 : off + k < cs.toList.length := by simp; omega
    have e1 := seg_get (cs.toList.set (off + k) v) vs (off + k + 1) (by simp; omega) j
    have e2 := seg_get cs.toList (v :: vs) (off + k) (by simp; omega) j
    simp only [List.length_cons] at e2 ⊢
    rw [show off + (k + 1) = off + k + 1 by omega, e1, e2]
    by_cases hj : j = off + k
    · subst hj
      rw [if_neg (by omega), if_pos (by omega), List.getElem?_set_self h1]
      simp
    · by_cases hj2 : off + k + 1 ≤ j ∧ j < off + k + 1 + vs.length
      · rw [if_pos hj2, if_pos (by omega), show j - (off + k) = (j - (off + k + 1)) + 1 by omega]
        simp
      · rw [if_neg hj2, if_neg (by omega), List.getElem?_set_ne (Ne.symm hj)]

theorem overw_length {xs vs : List Lf} {off : Nat} (h : off + vs.length ≤ xs.length) : (overw xs off vs).length = xs.length := by
  unfold overw; simp; omega

theorem concL_overw {g : Gh} {w : World} {xs vs : List Lf} {us ws : List Value} {off : Nat} (h : ConcL g w xs us) (h' : ConcL g w vs ws) (hb : off + vs.length ≤ xs.length) : ConcL g w (overw xs off vs) (us.take off ++ ws ++ us.drop (off + ws.length)) := by
  unfold overw
  have : vs.length = ws.length := h'.1
  rw [← this]
  exact ((h.take off).append h').append (h.drop (off + vs.length))

theorem fill_spec {g : Gh} {w : World} {place : Nat → Option (Nat × Nat)} : ∀ (parts : List (Nat × AV)) (cparts : List (Nat × Value)) (cells out : List Lf) (ccells : Array Value),
    parts.length = cparts.length → (∀ (k : Nat) (p : Nat × AV) (q : Nat × Value), parts[k]? = some p → cparts[k]? = some q → p.1 = q.1 ∧ ConcA g w p.2 q.2) → ConcL g w cells ccells.toList → fillA place cells parts = some out →
    ∃ cout : Array Value, Instr.fill place ccells cparts = some cout ∧ ConcL g w out cout.toList
  | [], [], cells, out, ccells, _, _, hc, h => by
    simp only [fillA, Option.some.injEq] at h
    subst h
    exact ⟨ccells, rfl, hc⟩
  | [], _ :: _, _, _, _, hl, _, _, _ => by simp at hl
  | _ :: _, [], _, _, _, hl, _, _, _ => by simp at hl
  | (i, v) :: parts, (i', v') :: cparts, cells, out, ccells, hl, hp, hc, h => by
    obtain ⟨hii, hv⟩ := hp 0 (i, v) (i', v') rfl rfl
    simp only at hii hv
    subst hii
    rw [fillA_cons] at h
    split at h
    · rename_i off size vs hpl hvs
      split at h
      · rename_i hb
        have hcl := avCells_conc hv hvs
        have hvl : v'.cells.toList.length = vs.length := hcl.1.symm
        have hvs' : v'.cells.size = vs.length := by rw [← hvl]; simp
        have hsz : cells.length = ccells.size := by rw [hc.1]; simp
        have hcond : ¬ (v'.cells.size ≠ size ∨ off + v'.cells.size > ccells.size) := by
          rw [hvs', ← hsz]; omega
        have hnew := concL_overw hc hcl hb.2
        have hfold := foldl_set v'.cells.toList 0 off ccells (by rw [hvl]; omega)
        simp only [Nat.add_zero] at hfold
        obtain ⟨cout, h1, h2⟩ := fill_spec parts cparts (overw cells off vs) out (v'.cells.toList.zipIdx.foldl (fun cs (x : Value × Nat) => cs.setIfInBounds (off + x.2) x.1) ccells) (by simpa using hl)
          (fun k p q a b => hp (k + 1) p q (by simpa using a) (by simpa using b)) (by rw [hfold]; exact hnew) h
        refine ⟨cout, ?_, h2⟩
        simp only [Instr.fill, hpl]
        rw [if_neg (by simpa using hcond)]
        rw [← h1]
        congr 1
        rw [← Array.foldl_toList]
        simp
      · cases h
    · cases h

def placesOf (P : Program) : List (Nat × Nat) → Option (List (Nat × Nat))
  | [] => some []
  | (off, t) :: rest => match tiOf P t, placesOf P rest with
    | some i, some r => some ((off, i.size) :: r)
    | _, _ => none

def buildA (P : Program) (t : TypeId) (parts : List (Nat × AV)) : Option AV :=
  match tiOf P t with
  | some ti => match avCells ti.zero, ti.d with
    | some z, .struct fs => match placesOf P fs with
      | some pl => (fillA (fun i => pl[i]?) z parts).map .agg
      | none => none
    | some z, .array _ e => match tiOf P e with
      | some te => (fillA (fun i => some (i * te.size, te.size)) z parts).map .agg
      | none => none
    | _, _ => none
  | none => none

theorem places_spec {P : Program} : ∀ (fields : List Field) (pl : List (Nat × Nat)), placesOf P (fields.map fun f => (f.offset, f.type)) = some pl → fields.mapM (fun f => (P.info? f.type).map fun i => (f.offset, i.size)) = some pl
  | [], pl, h => by simp [placesOf] at h; simp [h]
  | f :: fs, pl, h => by
    simp only [List.map_cons, placesOf] at h
    split at h
    · rename_i i r hti hr
      simp only [Option.some.injEq] at h
      subst h
      obtain ⟨inf, _, _, hinf, _, _, hs, _⟩ := ti_spec hti
      have ih := places_spec fs r hr
      simp [List.mapM_cons, hinf, ih, hs]
    · cases h

theorem run_buildA {P : Program} {g : Gh} {w : World} {t : TypeId} {parts : List (Nat × AV)} {cparts : Array (Nat × Value)} {v : AV} (hl : parts.length = cparts.toList.length)
    (hp : ∀ (k : Nat) (p : Nat × AV) (q : Nat × Value), parts[k]? = some p → cparts.toList[k]? = some q → p.1 = q.1 ∧ ConcA g w p.2 q.2) (h : buildA P t parts = some v) :
    ∃ c, (Instr.build t cparts).run P w = .ok c w ∧ ConcA g w v c := by
  unfold buildA at h
  split at h
  · rename_i ti hti
    obtain ⟨inf, d, z, hinf, hd, hz, hs, _, _, hza, hdd⟩ := ti_spec hti
    have hcz := conc_absV g w z
    rw [← hza] at hcz
    rw [hdd] at h
    split at h
    · rename_i zc fs hzc hfs
      obtain ⟨fields, rfl, rfl⟩ := tdOf_struct hfs
      split at h
      · rename_i pl hpl
        cases hf : fillA (fun i => pl[i]?) zc parts with
        | none => rw [hf] at h; cases h
        | some out =>
          rw [hf] at h
          simp only [Option.map_some, Option.some.injEq] at h
          subst h
          obtain ⟨cout, h1, h2⟩ := fill_spec parts cparts.toList zc out z.cells hl hp (avCells_conc hcz hzc) hf
          have hpm := places_spec fields.toList pl hpl
          have hbuilt : P.built t cparts.toList = some cout := by
            unfold Program.built
            simp only [hinf, hd, hz, hpm]
            rw [← h1]
            congr 1
            funext i
            simp
          refine ⟨.agg cout, run_build w t cparts cout hbuilt, ?_⟩
          have := ConcA.agg cout.toList h2
          simpa using this
      · cases h
    · rename_i zc n e hzc hfs
      have := tdOf_array hfs
      subst this
      split at h
      · rename_i te hte
        obtain ⟨infe, de, ze, hinfe, hde, hze, hse, _, _, _, _⟩ := ti_spec hte
        cases hf : fillA (fun i => some (i * te.size, te.size)) zc parts with
        | none => rw [hf] at h; cases h
        | some out =>
          rw [hf] at h
          simp only [Option.map_some, Option.some.injEq] at h
          subst h
          obtain ⟨cout, h1, h2⟩ := fill_spec parts cparts.toList zc out z.cells hl hp (avCells_conc hcz hzc) hf
          have hbuilt : P.built t cparts.toList = some cout := by
            unfold Program.built
            simp only [hinf, hd, hz, hinfe]
            rw [← h1, hse]
          refine ⟨.agg cout, run_build w t cparts cout hbuilt, ?_⟩
          have := ConcA.agg cout.toList h2
          simpa using this
      · cases h
    · cases h
  · cases h

/-- Rows out of the flat cells. -/
def chunk (sz : Nat) : Nat → List Lf → List (List Lf)
  | 0, _ => []
  | n + 1, xs => xs.take sz :: chunk sz n (xs.drop sz)
theorem chunk_zero (sz : Nat) (xs : List Lf) : chunk sz 0 xs = [] := rfl
theorem chunk_succ (sz n : Nat) (xs : List Lf) : chunk sz (n + 1) xs = xs.take sz :: chunk sz n (xs.drop sz) := rfl
theorem chunk_flat (sz : Nat) : ∀ (n : Nat) (xs : List Lf), xs.length = n * sz → (chunk sz n xs).flatten = xs ∧ (chunk sz n xs).length = n ∧ ∀ r ∈ chunk sz n xs, r.length = sz
  | 0, xs, h => by
    have : xs = [] := List.eq_nil_of_length_eq_zero (by simpa using h)
    subst this
    exact ⟨rfl, rfl, fun r hr => by simp [chunk] at hr⟩
  | n + 1, xs, h => by
    rw [Nat.add_mul, Nat.one_mul] at h
    obtain ⟨h1, h2, h3⟩ := chunk_flat sz n (xs.drop sz) (by simp; omega)
    refine ⟨by simp [chunk, h1], by simp [chunk, h2], fun r hr => ?_⟩
    simp only [chunk, List.mem_cons] at hr
    rcases hr with rfl | hr
    · simp; omega
    · exact h3 r hr

def buildSliceA (P : Program) (t : TypeId) (len : Nat) (parts : List (Nat × AV)) : Option (Nat × List (List Lf)) :=
  match tiOf P t with
  | some ti => match ti.d with
    | .slice e => match tiOf P e with
      | some te => match avCells te.zero with
        | some z => if 0 < te.size ∧ len * te.size ≤ 16777216 ∧ z.length = te.size then (fillA (fun i => some (i * te.size, te.size)) ((List.replicate len z).flatten) parts).map fun out => (e, chunk te.size len out) else none
        | none => none
      | none => none
    | _ => none
  | none => none

theorem fill_length {place : Nat → Option (Nat × Nat)} : ∀ (parts : List (Nat × AV)) (cells out : List Lf), fillA place cells parts = some out → out.length = cells.length
  | [], cells, out, h => by simp [fillA] at h; rw [h]
  | (i, v) :: parts, cells, out, h => by
    rw [fillA_cons] at h
    split at h
    · split at h
      · rename_i hb
        rw [fill_length parts _ out h, overw_length hb.2]
      · cases h
    · cases h

theorem rep_cells {g : Gh} {w : World} {z : List Lf} {zc : Array Value} (h : ConcL g w z zc.toList) (hpos : 0 < z.length) (n : Nat) : ConcL g w (List.replicate n z).flatten ((Array.range (n * z.length)).map (zc[· % zc.size]!)).toList := by
  have hsz : zc.size = z.length := by rw [h.1]; simp
  have hlen : (List.replicate n z).flatten.length = n * z.length := by rw [flat_len (sz := z.length) (fun r hr => by rw [List.eq_of_mem_replicate hr])]; simp
  refine ⟨by rw [hlen]; simp, fun k x v hx hv => ?_⟩
  have hk := (List.getElem?_eq_some_iff.1 hx).1
  rw [hlen] at hk
  have hj := Nat.mod_lt k hpos
  have hi : k / z.length < n := (Nat.div_lt_iff_lt_mul hpos).2 hk
  have hdm : k / z.length * z.length + k % z.length = k := by rw [Nat.mul_comm]; exact Nat.div_add_mod k z.length
  have hf := flat_get (rows := List.replicate n z) (sz := z.length) (fun r hr => by rw [List.eq_of_mem_replicate hr]) (k / z.length) (k % z.length) z (by rw [List.getElem?_replicate, if_pos hi]) hj
  rw [hdm, hx] at hf
  obtain ⟨u, hu, hcu⟩ := h.get hf.symm
  have hv' : v = zc[k % zc.size]! := by
    simp only [Array.toList_map, List.getElem?_map, Array.toList_range, List.getElem?_range hk, Option.map_some, Option.some.injEq] at hv
    exact hv.symm
  rw [hv', hsz]
  have : zc[k % z.length]? = some u := by simpa using hu
  rw [getElem!_def, this]
  exact hcu

theorem run_buildSliceA {P : Program} {g : Gh} {M : Mem} {w : World} (hP : g.P = P) (hR : Rel g M w) {t : TypeId} {len e : Nat} {parts : List (Nat × AV)} {cparts : Array (Nat × Value)} {rows : List (List Lf)} (hl : parts.length = cparts.toList.length)
    (hp : ∀ (k : Nat) (p : Nat × AV) (q : Nat × Value), parts[k]? = some p → cparts.toList[k]? = some q → p.1 = q.1 ∧ ConcA g w p.2 q.2) (h : buildSliceA P t len parts = some (e, rows)) {id : Nat} (hg : g.blk id = none) (hM : M id = none) (hr0 : ¬ g.res id) :
    ∃ c w' g', (Instr.buildSlice t len cparts).run P w = .ok c w' ∧ Ev g w g' w' ∧ Conc g' w' (.ms id 0 len) c ∧ Rel g' (M.set id (.cells e rows 0)) w' := by
  unfold buildSliceA at h
  split at h
  · rename_i ti hti
    obtain ⟨inf, d, z, hinf, hd, hz, hs, _, _, hza, hdd⟩ := ti_spec hti
    rw [hdd] at h
    split at h
    · rename_i e' he
      have := tdOf_slice he
      subst this
      split at h
      · rename_i te hte
        obtain ⟨infe, de, ze, hinfe, hde, hze, hse, _, _, hzea, _⟩ := ti_spec hte
        split at h
        · rename_i zc hzc
          split at h
          · rename_i hb
            cases hf : fillA (fun i => some (i * te.size, te.size)) ((List.replicate len zc).flatten) parts with
            | none => rw [hf] at h; cases h
            | some out =>
              rw [hf] at h
              simp only [Option.map_some, Option.some.injEq, Prod.mk.injEq] at h
              obtain ⟨rfl, rfl⟩ := h
              have hcz := conc_absV g w ze
              rw [← hzea] at hcz
              have hczl := avCells_conc hcz hzc
              have hrep := rep_cells hczl (by rw [hb.2.2]; exact hb.1) len
              obtain ⟨cout, h1, h2⟩ := fill_spec parts cparts.toList _ out _ hl hp hrep hf
              rw [hb.2.2, hse] at h1
              have hne : ¬ (len * infe.size > 2 ^ 24) := by rw [← hse]; omega
              have hzsz : ze.cells.size = infe.size := by rw [← hse, ← hb.2.2, hczl.1]; simp
              have hrun : (Instr.buildSlice t len cparts).run P w = .ok (.slice (some ⟨w.heap.size, 0, none⟩) len len) (w.alloc (.cells cout e' (0, 0))) := by
                by_cases h0 : len * infe.size = 0
                · have h1' : Instr.fill (fun i => some (i * infe.size, infe.size)) #[] cparts.toList = some cout := by
                    rw [h0, Array.range_zero', Array.map_empty] at h1
                    exact h1
                  have hr0 : Array.map (fun _ : Nat => (default : Value)) (Array.range 0) = #[] := by rw [Array.range_zero', Array.map_empty]
                  simp [hr0, Instr.buildSlice, run_underlying hd, run_sizeOf' hinfe, hne, h0, h1', newRow]
                · simp [Instr.buildSlice, run_underlying hd, run_sizeOf' hinfe, hne, h0, run_zeroValue' hinfe hze, h1, newRow]
              have hol : out.length = len * te.size := by
                rw [fill_length parts _ out hf, flat_len (sz := te.size) (fun r hr => by rw [List.eq_of_mem_replicate hr, hb.2.2])]
                simp
              obtain ⟨c1, c2, c3⟩ := chunk_flat te.size len out hol
              have hra := rowsAt_flat (g := g) (w := w) (rows := chunk te.size len out) (sz := te.size) c3 (vs := cout.toList) (rest := []) (by rw [c1]; exact h2)
              have hcs : cout.size = len * te.size := by rw [← hol, h2.1]; simp
              obtain ⟨ev, rel⟩ := rel_new_cells hR hg hM hr0 (Grow1.alloc w (.cells cout e' (0, 0))) (chunk te.size len out) te.size len hcs (by rw [c2]; exact Nat.le_refl _)
                (by have := Nat.le_mul_of_pos_right len hb.1; simp only [maxLen]; omega) (by simpa using hra) (by rw [hP, hse]; simp [szOf, hinfe])
              refine ⟨_, _, _, hrun, ev, ?_, rel⟩
              have := Conc.ms (w := w.alloc (.cells cout e' (0, 0))) (off := 0) (len := len) (cap := len) (Gh.put_same g id (w.heap.size, te.size, len)) (Nat.le_refl _) (by omega)
              simpa using this
          · cases h
        · cases h
      · cases h
    · cases h
  · cases h


/-! ### make([]T, n) -/
def makeSliceA (P : Program) (t : TypeId) (l c : AV) : Option (Nat × List (List Lf)) :=
  match l, c with
  | .l (.int _ n), .l (.int _ n') =>
    match tiOf P t with
    | some ti => match ti.d with
      | .slice e => match tiOf P e with
        | some te => match avCells te.zero with
          | some z => if 0 < te.size ∧ z.length = te.size ∧ n = n' ∧ 0 ≤ n ∧ (te.bytes : Int) * n ≤ 281474976710656 ∧ n ≤ 9223372036854775807 then some (e, List.replicate n.toNat z) else none
          | none => none
        | none => none
      | _ => none
    | none => none
  | _, _ => none

theorem run_makeSliceA {P : Program} {g : Gh} {M : Mem} {w : World} (hP : g.P = P) (hR : Rel g M w) {t e : TypeId} {l c : AV} {cl cc : Value} {rows : List (List Lf)} (hl : ConcA g w l cl) (hc : ConcA g w c cc)
    (h : makeSliceA P t l c = some (e, rows)) {id : Nat} (hg : g.blk id = none) (hM : M id = none) (hr0 : ¬ g.res id) :
    ∃ c w' g', (Instr.makeSlice t cl cc).run P w = .ok c w' ∧ Ev g w g' w' ∧ Conc g' w' (.ms id 0 rows.length) c ∧ Rel g' (M.set id (.cells e rows 0)) w' := by
  unfold makeSliceA at h
  split at h
  · rename_i k n k' n'
    have := conc_int hl
    subst this
    have := conc_int hc
    subst this
    split at h
    · rename_i ti hti
      obtain ⟨inf, d, z, hinf, hd, hz, hs, _, _, hza, hdd⟩ := ti_spec hti
      rw [hdd] at h
      split at h
      · rename_i e' he
        have := tdOf_slice he
        subst this
        split at h
        · rename_i te hte
          obtain ⟨infe, de, ze, hinfe, hde, hze, hse, hbe, _, hzea, _⟩ := ti_spec hte
          split at h
          · rename_i zc hzc
            split at h
            · rename_i hb
              obtain ⟨hpos, hzl, rfl, hn0, hby, hmx⟩ := hb
              simp only [Option.some.injEq, Prod.mk.injEq] at h
              obtain ⟨rfl, rfl⟩ := h
              have hcz := conc_absV g w ze
              rw [← hzea] at hcz
              have hczl := avCells_conc hcz hzc
              have hrep := rep_cells hczl (by omega) n.toNat
              rw [hzl, hse] at hrep
              have hrun := run_make (P := P) w t e' infe ze hd hinfe hze k k' n n hn0 (by omega) (by rw [← hbe]; exact hby) hmx
              have hrsz : ∀ r ∈ List.replicate n.toNat zc, r.length = te.size := fun r hr => by rw [List.eq_of_mem_replicate hr, hzl]
              have hra := rowsAt_flat (g := g) (w := w) hrsz (vs := (madeCells ze.cells (n.toNat * infe.size)).toList) (rest := []) hrep
              obtain ⟨ev, rel⟩ := rel_new_cells hR hg hM hr0 (Grow1.alloc w (.cells (madeCells ze.cells (n.toNat * infe.size)) e' (0, 0))) (List.replicate n.toNat zc) te.size n.toNat (by rw [size_madeCells, hse]) (by simp)
                (by simp only [maxLen]; omega) (by simpa using hra) (by rw [hP, hse]; simp [szOf, hinfe])
              refine ⟨_, _, _, hrun, ev, ?_, rel⟩
              have := Conc.ms (w := w.alloc (.cells (madeCells ze.cells (n.toNat * infe.size)) e' (0, 0))) (off := 0) (len := n.toNat) (cap := n.toNat) (Gh.put_same g id (w.heap.size, te.size, n.toNat)) (Nat.le_refl _) (by omega)
              simpa using this
            · cases h
          · cases h
        · cases h
      · cases h
    · cases h
  · cases h

/-! ### clear(s) -/
def clearA (P : Program) (M : Mem) (t : TypeId) (a : AV) : Option Mem :=
  match tiOf P t with
  | some ti => match ti.d, a with
    | .slice _, .l .nils => some M
    | .slice _, .l (.sl []) => some M
    | .slice e, .l (.ms id off len) => match tiOf P e, M id with
      | some te, some (.cells T rows keep) => match avCells te.zero with
        | some z => if T = e ∧ z.length = te.size ∧ 0 < te.size ∧ off + len ≤ rows.length ∧ keep ≤ off then some (M.set id (.cells T (rows.take off ++ List.replicate len z ++ rows.drop (off + len)) keep)) else none
        | none => none
      | _, _ => none
    | _, _ => none
  | none => none

theorem zeroCells_made (z : Array Value) (n : Nat) : Builtin.zeroCells z n = (Array.range (n * z.size)).map (z[· % z.size]!) := rfl

theorem run_clearA {P : Program} {g : Gh} {M M' : Mem} {w : World} (hP : g.P = P) (hR : Rel g M w) {t ty : TypeId} {a : AV} {ca : Value} (ha : ConcA g w a ca) (h : clearA P M t a = some M') :
    ∃ c w', (Builtin.clear_ #[t] ty #[ca]).run P w = .ok c w' ∧ Ev g w g w' ∧ Rel g M' w' := by
  unfold clearA at h
  split at h
  · rename_i ti hti
    obtain ⟨inf, d, z, hinf, hd, hz, hs, _, _, hza, hdd⟩ := ti_spec hti
    rw [hdd] at h
    split at h
    · rename_i e he
      have := tdOf_slice he
      subst this
      simp only [Option.some.injEq] at h
      subst h
      cases ha with
      | l ha =>
        cases ha with
        | nils =>
          rename_i ao
          exact ⟨.tuple #[], w, by cases ao <;> simp [Builtin.clear_, run_underlying hd], Ev.refl _ _, hR⟩
    · rename_i e he
      have := tdOf_slice he
      subst this
      simp only [Option.some.injEq] at h
      subst h
      cases ha with
      | l ha =>
        obtain ⟨ao, cap, rfl, _⟩ := conc_sl ha
        exact ⟨.tuple #[], w, by cases ao <;> simp [Builtin.clear_, run_underlying hd], Ev.refl _ _, hR⟩
    · rename_i e id off len he
      have := tdOf_slice he
      subst this
      split at h
      · rename_i te T rows keep hte hM
        obtain ⟨infe, de, ze, hinfe, hde, hze, hse, _, _, hzea, _⟩ := ti_spec hte
        split at h
        · rename_i zc hzc
          split at h
          · rename_i hb
            obtain ⟨rfl, hzl, hpos, hol, hkeep⟩ := hb
            simp only [Option.some.injEq] at h
            subst h
            cases ha with
            | l ha =>
              cases ha with
              | ms hx h1 h2 =>
                rename_i b sz cr cap
                obtain ⟨b', sz', cr', cur, g1, g2, g3, g4, g5, g6, g7, g8, g9⟩ := hR.blk id _ hM
                rw [hx, Option.some.injEq, Prod.mk.injEq, Prod.mk.injEq] at g1
                obtain ⟨rfl, rfl, rfl⟩ := g1
                have hsz : sz = infe.size := by rw [g9, hP]; simp [szOf, hinfe]
                subst hsz
                have hcz := conc_absV g w ze
                rw [← hzea] at hcz
                have hczl := avCells_conc hcz hzc
                have hzsz : ze.cells.size = infe.size := by rw [← hse, ← hzl, hczl.1]; simp
                have hrep := rep_cells hczl (by omega) len
                rw [hzl, hse] at hrep
                have hzz : Builtin.zeroCells ze.cells len = (Array.range (len * infe.size)).map (ze.cells[· % ze.cells.size]!) := by rw [zeroCells_made, hzsz]
                rw [← hzz] at hrep
                have hlenz : (Builtin.zeroCells ze.cells len).toList.length = len * infe.size := by simp [zeroCells_size, hzsz]
                have hb1 : (off + len) * infe.size ≤ cur.size := by rw [g4]; exact Nat.mul_le_mul_right _ (by omega)
                rw [Nat.add_mul] at hb1
                have hst := run_storeCells_at P b (off * infe.size) T (Builtin.zeroCells ze.cells len).toList 0 cur w g3 (by rw [hlenz]; omega) hrep.one
                simp only [Nat.add_zero] at hst
                have hget : ∀ j, (cur.toList.take (off * infe.size) ++ (Builtin.zeroCells ze.cells len).toList ++ cur.toList.drop (off * infe.size + (Builtin.zeroCells ze.cells len).toList.length)).toArray[j]? =
                    if off * infe.size ≤ j ∧ j < off * infe.size + len * infe.size then (Builtin.zeroCells ze.cells len).toList[j - off * infe.size]? else cur[j]? := fun j => by
                  have := seg_get cur.toList (Builtin.zeroCells ze.cells len).toList (off * infe.size) (by rw [hlenz]; simp; omega) j
                  rw [hlenz] at this
                  rw [hlenz]
                  simpa using this
                have hll : (rows.take off ++ List.replicate len zc ++ rows.drop (off + len)).length = rows.length := by simp; omega
                have hrows : ∀ r ∈ rows.take off ++ List.replicate len zc ++ rows.drop (off + len), r.length = infe.size := fun r hr => by
                  rcases List.mem_append.1 hr with hr | hr
                  · rcases List.mem_append.1 hr with hr | hr
                    · exact g6.1 r (List.mem_of_mem_take hr)
                    · rw [List.eq_of_mem_replicate hr, hzl, hse]
                  · exact g6.1 r (List.mem_of_mem_drop hr)
                obtain ⟨ev, rel⟩ := rel_wrote_cells hR hM hx g3 (Wrote.setRow (cur' := (cur.toList.take (off * infe.size) ++ (Builtin.zeroCells ze.cells len).toList ++ cur.toList.drop (off * infe.size + (Builtin.zeroCells ze.cells len).toList.length)).toArray) g3)
                  (by rw [← g4]; simp only [List.size_toArray, List.length_append, List.length_take, List.length_drop, Array.length_toList] at hlenz ⊢; omega)
                  (rows' := rows.take off ++ List.replicate len zc ++ rows.drop (off + len)) (by rw [hll]; exact g5) g8
                  (fun o ho => by
                    rw [hget, if_neg]
                    have : keep * infe.size ≤ off * infe.size := Nat.mul_le_mul_right _ hkeep
                    omega)
                  ⟨hrows, fun i j r x hr hx => by
                    have hj : j < infe.size := by rw [← hrows r (List.mem_of_getElem? hr)]; exact (List.getElem?_eq_some_iff.1 hx).1
                    have hseg := seg_get rows (List.replicate len zc) off (by simp; omega) i
                    simp only [List.length_replicate] at hseg
                    rw [hseg] at hr
                    rw [hget]
                    by_cases hin : off ≤ i ∧ i < off + len
                    · rw [if_pos hin, List.getElem?_replicate, if_pos (by omega), Option.some.injEq] at hr
                      subst hr
                      have hfg := flat_get (rows := List.replicate len zc) (sz := infe.size) (fun r hr => by rw [List.eq_of_mem_replicate hr, hzl, hse]) (i - off) j zc (by rw [List.getElem?_replicate, if_pos (by omega)]) hj
                      rw [hx] at hfg
                      obtain ⟨u, hu, hcu⟩ := hrep.get hfg
                      have e1 : i * infe.size = off * infe.size + (i - off) * infe.size := by rw [← Nat.add_mul]; congr 1; omega
                      have hult := (List.getElem?_eq_some_iff.1 hu).1
                      rw [hlenz] at hult
                      rw [if_pos (by omega), show i * infe.size + j - off * infe.size = (i - off) * infe.size + j by omega]
                      exact ⟨u, hu, hcu⟩
                    · rw [if_neg hin] at hr
                      obtain ⟨u, hu, hcu⟩ := g6.2 i j r x hr hx
                      rw [if_neg]
                      · exact ⟨u, hu, hcu⟩
                      · intro hc
                        rcases Nat.lt_or_ge i off with h | h
                        · have : (i + 1) * infe.size ≤ off * infe.size := Nat.mul_le_mul_right _ h
                          rw [Nat.add_mul] at this
                          omega
                        · have : (off + len) * infe.size ≤ i * infe.size := Nat.mul_le_mul_right _ (by omega)
                          rw [Nat.add_mul] at this
                          omega⟩ g7 (by rw [hP]; simp [szOf, hinfe])
                by_cases hl0 : len = 0
                · subst hl0
                  refine ⟨.tuple #[], w, by simp [Builtin.clear_, run_underlying hd], Ev.refl _ _, ?_⟩
                  have : M.set id (.cells T (rows.take off ++ List.replicate 0 zc ++ rows.drop (off + 0)) keep) = M := by
                    funext k
                    rw [Mem.set_app]
                    split
                    · rename_i he; subst he; rw [hM]; simp
                    · rfl
                  rw [this]
                  exact hR
                · refine ⟨.tuple #[], _, ?_, ev, rel⟩
                  obtain ⟨len', rfl⟩ : ∃ m, len = m + 1 := ⟨len - 1, by omega⟩
                  simp [Builtin.clear_, run_underlying hd, run_zeroValue' hinfe hze, hst]
          · cases h
        · cases h
      · cases h
    · cases h
  · cases h

/-! ### append of so many zeros to a slice that is nil -/
def appendZ (N : (Nat → Prop) → Prop) (P : Program) (M : Mem) (t tx : TypeId) (n : Int) (K : AV → Mem → Prop) : Prop :=
  match tiOf P t, tiOf P tx with
  | some ti, some tj => match ti.d, tj.d with
    | .slice e, .int _ => match tiOf P e with
      | some te => match avCells te.zero with
        | some z => zeroFits P e = true ∧ z.length = te.size ∧ 0 < te.size ∧ 0 < n ∧ n.toNat * te.bytes ≤ 140737488355328 ∧ n ≤ 140737488355328 ∧ N fun id => K (.l (.ms id 0 n.toNat)) (M.set id (.cells e (List.replicate n.toNat z) 0))
        | none => False
      | none => False
    | _, _ => False
  | _, _ => False
theorem run_append_zeros {P : Program} {w : World} (t tx ty e : TypeId) (k : IntKind) (i : TypeInfo) (z : Value) (ht : P.underlying t = some (.slice e)) (hx : P.underlying tx = some (.int k)) (hi : P.info? e = some i) (hz : i.zero = some z) (a : Option Addr) (m : Nat)
    (h0 : 0 < m) (hm : m ≤ 140737488355328) (hb : m * i.bytes ≤ 140737488355328) (hs : 0 < i.size) :
    (Builtin.append_ #[t, tx] ty #[.slice a 0 0, .int .i64 (m : Int)]).run P w =
      .ok (.slice (some ⟨w.heap.size, 0, none⟩) m (grownCap w m 0 e))
        (w.drew.alloc (.cells (Builtin.zeroCells z.cells m ++ Builtin.zeroCells z.cells (grownCap w m 0 e - m)) e)) := by
  have hw : IntKind.i64.wrap (m : Int) = (m : Int) := by rw [IntKind.wrap_i64]; omega
  have h1 : ¬ ((m : Int) < 0) := by omega
  have h2 : ¬ ((m : Int) * (i.bytes : Int) > 281474976710656) := by
    have : ((m * i.bytes : Nat) : Int) ≤ 140737488355328 := Int.ofNat_le.2 hb
    rw [Int.natCast_mul] at this
    omega
  have h2' : ¬ (281474976710656 < (m : Int) * (i.bytes : Int)) := h2
  have h3 : ¬ (m ≤ 0) := by omega
  have h3' : ¬ (m = 0) := by omega
  have h3'' : ¬ (i.size = 0) := by omega
  have h4 : ¬ (9223372036854775807 < (m : Int)) := by omega
  have h5 : ¬ (281474976710656 < Builtin.nextslicecap m 0 * i.bytes) := by
    have := growslice_fits (need := m) (old := 0) (bytes := i.bytes) (by omega) hb
    omega
  have h6 : m * i.size ≠ 0 := Nat.mul_ne_zero (by omega) (by omega)
  cases a <;>
    (simp [Builtin.append_, run_underlying ht, run_underlying hx, sizeOf, typeInfo, zeroValue, hi, hz, asInt, asIntOf, hw, h1, h2', h3, h3', h3'', h4, h5, Question.forced, Builtin.firstCells, loadCells, loadCellsFrom, newRow, grownCap]
     exact fun he => absurd he h6)

theorem run_appendZ {P : Program} {g : Gh} {M : Mem} {w : World} (hP : g.P = P) (hR : Rel g M w) {t tx ty : TypeId} {n : Int} {a : Option Addr} {K : AV → Mem → Prop} {N : (Nat → Prop) → Prop} (hN : ∀ F : Nat → Prop, N F → ∃ id, g.blk id = none ∧ M id = none ∧ ¬ g.res id ∧ F id)
    (h : appendZ N P M t tx n K) : Comes1 P (Builtin.append_ #[t, tx] ty #[.slice a 0 0, .int .i64 n]) g w K := by
  unfold appendZ at h
  split at h
  · rename_i ti tj hti htj
    obtain ⟨inft, d, zt, hinft, hd, hzt, _, _, _, _, hdd⟩ := ti_spec hti
    obtain ⟨infj, dj, zj, hinfj, hdj, hzj, _, _, _, _, hddj⟩ := ti_spec htj
    split at h
    · rename_i e k he hk
      rw [hdd] at he
      have := tdOf_slice he
      subst this
      rw [hddj] at hk
      have := tdOf_int hk
      subst this
      split at h
      · rename_i te hte
        obtain ⟨inf, de, z, hinf, hde, hz, hsz, hby, _, hza, _⟩ := ti_spec hte
        split at h
        · rename_i zc hzc
          obtain ⟨hzf', hzl, hpos, hn0, hb, hn, hK⟩ := h
          have hzs := zeroFits_spec hzf' hinf hz
          obtain ⟨id', hg, hM, hr0, hK'⟩ := hN _ hK
          obtain ⟨m, rfl⟩ := Int.eq_ofNat_of_zero_le (show 0 ≤ n by omega)
          simp only [Int.toNat_natCast] at hb hK'
          have hbb : m * inf.bytes ≤ 140737488355328 := by rw [← hby]; exact hb
          have hrun := run_append_zeros (w := w) t tx ty e k inf z hd hdj hinf hz a m (by omega) (by omega) hbb (by rw [← hsz]; exact hpos)
          have hc := conc_absV g w z
          rw [← hza] at hc
          have hcz := avCells_conc hc hzc
          have hrep := rep_cells hcz (by rw [hzl]; exact hpos) m
          have hzsz : z.cells.size = zc.length := by rw [hzs, hzl, hsz]
          have heqz : ((Array.range (m * zc.length)).map (z.cells[· % z.cells.size]!)) = Builtin.zeroCells z.cells m := by rw [zeroCells_made, hzsz]
          rw [heqz] at hrep
          have hrs : ∀ r ∈ List.replicate m zc, r.length = inf.size := fun r hr => by rw [List.eq_of_mem_replicate hr, hzl, hsz]
          have hcap := grownCap_ge w m 0 e
          obtain ⟨ev, rel⟩ := rel_new_cells hR hg hM hr0 (Grow1.drew_alloc w (.cells (Builtin.zeroCells z.cells m ++ Builtin.zeroCells z.cells (grownCap w m 0 e - m)) e (0, 0))) (List.replicate m zc) inf.size (grownCap w m 0 e)
            (by rw [Array.size_append, zsize hinf hz hzs, zsize hinf hz hzs, ← Nat.add_mul]; congr 1; omega) (by simpa using hcap) (grownCap_le_maxLen w _ _ _ (by simp only [maxLen]; omega))
            (by
              have := rowsAt_flat hrs (rest := (Builtin.zeroCells z.cells (grownCap w m 0 e - m)).toList) hrep
              have heq : ((Builtin.zeroCells z.cells m).toList ++ (Builtin.zeroCells z.cells (grownCap w m 0 e - m)).toList).toArray = Builtin.zeroCells z.cells m ++ Builtin.zeroCells z.cells (grownCap w m 0 e - m) := by
                apply Array.ext'; simp
              rw [heq] at this
              exact this)
            (by rw [hP]; simp [szOf, hinf])
          refine ⟨_, _, _, _, _, hrun, hK', ev, .l ?_, rel⟩
          have := Conc.ms (w := w.drew.alloc (.cells (Builtin.zeroCells z.cells m ++ Builtin.zeroCells z.cells (grownCap w m 0 e - m)) e (0, 0))) (off := 0) (len := m) (cap := grownCap w m 0 e) (Gh.put_same g id' (w.heap.size, inf.size, grownCap w m 0 e)) hcap (by omega)
          simpa using this
        · exact h.elim
      · exact h.elim
    · exact h.elim
  · exact h.elim
/-- append, of whatever kind. -/
def appendA (N : (Nat → Prop) → Prop) (P : Program) (M : Mem) (t tx : TypeId) (s x : AV) (K : AV → Mem → Prop) : Prop :=
  match s, x with
  | .l .nils, .l (.int .i64 n) => appendZ N P M t tx n K
  | s, x => appendG N P M t tx s x K
theorem appendA_ms (N : (Nat → Prop) → Prop) (P : Program) (M : Mem) (t tx : TypeId) (id off len : Nat) (x : AV) (K : AV → Mem → Prop) : appendA N P M t tx (.l (.ms id off len)) x K = appendG N P M t tx (.l (.ms id off len)) x K := by
  unfold appendA
  split
  · rename_i h; cases h
  · rfl
theorem run_appendA {P : Program} {g : Gh} {M : Mem} {w : World} (hP : g.P = P) (hR : Rel g M w) {t tx ty : TypeId} {s x : AV} {cs cx : Value} (hs : ConcA g w s cs) (hx : ConcA g w x cx) {K : AV → Mem → Prop} {N : (Nat → Prop) → Prop} (hN : ∀ F : Nat → Prop, N F → ∃ id, g.blk id = none ∧ M id = none ∧ ¬ g.res id ∧ F id)
    (h : appendA N P M t tx s x K) : Comes1 P (Builtin.append_ #[t, tx] ty #[cs, cx]) g w K := by
  unfold appendA at h
  split at h
  · cases hs with
    | l hs =>
      cases hs
      cases hx with
      | l hx =>
        cases hx
        exact run_appendZ hP hR hN h
  · exact run_appendG hP hR hs hx hN h

end Go.X
