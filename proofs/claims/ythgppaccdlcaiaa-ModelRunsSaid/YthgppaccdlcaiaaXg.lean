/- The program logic: append, literals, make. -/
import Derived.Test.YthgppaccdlcaiaaXf
import Derived.Laws.Tables
set_option linter.unusedVariables false
set_option linter.unusedSimpArgs false
set_option linter.unusedSectionVars false
namespace Go.X
open Go.RowKit

/-! ### append -/
/-- The zero value of a type has as many cells as the type (looked up in the table). -/
def zeroFits (P : Program) (t : TypeId) : Bool :=
  match P.info? t with
  | some i => match i.zero with
    | some z => z.cells.size == i.size
    | none => false
  | none => false
theorem zeroFits_spec {P : Program} {t : TypeId} (h : zeroFits P t = true) {inf : TypeInfo} {z : Value} (hi : P.info? t = some inf) (hz : inf.zero = some z) : z.cells.size = inf.size := by
  unfold zeroFits at h
  rw [hi] at h
  simp only [hz] at h
  simpa using h

def appendG (N : (Nat → Prop) → Prop) (P : Program) (M : Mem) (t tx : TypeId) (s x : AV) (K : AV → Mem → Prop) : Prop :=
  match tiOf P t with
  | some ti => match ti.d with
    | .slice e => match tiOf P e with
      | some te => zeroFits P e = true ∧ optK (srcRows P M t tx e te x) fun src =>
        match s with
        | .l .nils => 0 < te.size ∧ (src = [] → K (.l .nils) M) ∧ (src ≠ [] → src.length * te.bytes ≤ 140737488355328 ∧ src.length ≤ 140737488355328 ∧ N fun id' => K (.l (.ms id' 0 src.length)) (M.set id' (.cells e src 0)))
        | .l (.ms id 0 len) => match M id with
          | some (.cells T rows keep) => 0 < te.size ∧ T = e ∧ len ≤ rows.length ∧ keep ≤ len ∧ (len + src.length) * te.bytes ≤ 140737488355328 ∧ (len + src.length) ≤ 140737488355328 ∧
            N fun id' => K (.l (.ms id' 0 (len + src.length))) ((M.del id).set id' (.cells e (rows.take len ++ src) keep))
          | _ => False
        | _ => False
      | none => False
    | _ => False
  | none => False
def appendK (P : Program) (M : Mem) (t tx : TypeId) (s x : AV) (K : AV → Mem → Prop) : Prop := appendG (newK M) P M t tx s x K

theorem zeroCells_size (z : Array Value) (n : Nat) : (Builtin.zeroCells z n).size = n * z.size := by simp [Builtin.zeroCells]

theorem zero_cells_size {P : Program} {e : TypeId} {te : TI} (hte : tiOf P e = some te) {inf : TypeInfo} {z : Value} (hi : P.info? e = some inf) (hz : inf.zero = some z) : True := trivial

theorem rel_del {g : Gh} {M : Mem} {w : World} (h : Rel g M w) (id : Nat) : Rel g (M.del id) w := h.le fun i b hb => by
  rw [Mem.del_app] at hb
  split at hb
  · cases hb
  · exact hb

/-- A live block gets another name (the old one is dead). -/
theorem rel_rename {g : Gh} {M : Mem} {w : World} (h : Rel g M w) {id id' : Nat} (hg : g.blk id' = none) (hM : M id' = none) (hr0 : ¬ g.res id') {x : Nat × Nat × Nat} (hx : g.blk id = some x) {blk : Blk} (hb : M id = some blk) :
    Ev g w (g.put id' x) w ∧ Rel (g.put id' x) ((M.del id).set id' blk) w := by
  have hne : id ≠ id' := fun e => by subst e; rw [hg] at hx; cases hx
  have e : Ev g w (g.put id' x) w := ⟨rfl, rfl, fun i y hy => by
    by_cases hi : id' = i
    · subst hi; rw [hg] at hy; cases hy
    · rw [Gh.put_other _ _ _ _ hi]; exact hy, fun _ _ hf => hf, fun _ _ _ => rfl, rfl, fun i hr hb' => by
    have hi : id' ≠ i := fun e => hr0 (e ▸ hr)
    rw [Gh.put_other _ _ _ _ hi]; exact hb'⟩
  refine ⟨e, ?_⟩
  exact {
    blk := fun i b hb' => by
      rw [Mem.set_app] at hb'
      by_cases hi : id' = i
      · subst hi
        rw [if_pos rfl, Option.some.injEq] at hb'
        subst hb'
        have hold := h.blk id blk hb
        cases blk with
        | cells T rows keep =>
          obtain ⟨b, sz, cr, cur, h1, h2, h3, h4, h5, h6, h7, h8, h9⟩ := hold
          rw [hx, Option.some.injEq] at h1
          exact ⟨b, sz, cr, cur, by rw [Gh.put_same, h1], h2, h3, h4, h5, h6.ev e, h7, h8, h9⟩
        | map es =>
          obtain ⟨b, sz, cr, ents, clock, h1, h2, h3, h4, h5⟩ := hold
          rw [hx, Option.some.injEq] at h1
          exact ⟨b, sz, cr, ents, clock, by rw [Gh.put_same, h1], h2, h3, h4, fun i p en a b => ⟨(h5 i p en a b).1.ev e, (h5 i p en a b).2.ev e⟩⟩
      · rw [if_neg hi, Mem.del_app] at hb'
        split at hb'
        · cases hb'
        · exact (h.blk i b hb').ev e (fun _ _ => rfl) (fun _ _ _ ho => ho)
    inj := fun i j bi bj hi hj y z hy hz hyz => by
      rw [Mem.set_app] at hi hj
      have look : ∀ k bk y, (if id' = k then some blk else (M.del id) k) = some bk → (g.put id' x).blk k = some y → (id' = k ∧ y = x) ∨ (id' ≠ k ∧ id ≠ k ∧ M k = some bk ∧ g.blk k = some y) := fun k bk y hk hy => by
        by_cases h1 : id' = k
        · subst h1
          rw [Gh.put_same, Option.some.injEq] at hy
          exact .inl ⟨rfl, hy.symm⟩
        · rw [if_neg h1, Mem.del_app] at hk
          rw [Gh.put_other _ _ _ _ h1] at hy
          split at hk
          · cases hk
          · rename_i h2
            exact .inr ⟨h1, h2, hk, hy⟩
      rcases look i bi y hi hy with ⟨rfl, rfl⟩ | ⟨h1, h2, h3, h4⟩ <;> rcases look j bj z hj hz with ⟨rfl, rfl⟩ | ⟨k1, k2, k3, k4⟩
      · rfl
      · exact absurd (h.inj id j _ _ hb k3 _ _ hx k4 hyz) k2
      · exact absurd (h.inj id i _ _ hb h3 _ _ hx h4 hyz.symm) h2
      · exact h.inj i j _ _ h3 k3 _ _ h4 k4 hyz
    lt := fun i y hy => by
      by_cases hi : id' = i
      · subst hi; rw [Gh.put_same, Option.some.injEq] at hy; subst hy; exact h.lt _ _ hx
      · rw [Gh.put_other _ _ _ _ hi] at hy; exact h.lt _ _ hy
    fz := h.fz
    fin := fin_set (rel_del h id) id' x blk
    below := h.below }

theorem run_append_room' {P : Program} {w : World} (t tx ty e : TypeId) (i : TypeInfo) (ht : P.underlying t = some (.slice e)) (hi : P.info? e = some i) (b sLen sCap : Nat) (x : Value) (n : Nat) (news : List Value) (hs : Src P i.size tx x n news w)
    {cur : Array Value} {T : TypeId} (hb : w.heap[b]? = some (.cells cur T (0, 0))) (hroom : sLen + n ≤ sCap) (hfit : sLen * i.size + news.length ≤ cur.size) :
    (Builtin.append_ #[t, tx] ty #[.slice (some ⟨b, 0, none⟩) sLen sCap, x]).run P w =
      .ok (.slice (some ⟨b, 0, none⟩) (sLen + n) sCap) (w.setRow b (cur.toList.take (sLen * i.size) ++ news ++ cur.toList.drop (sLen * i.size + news.length)).toArray) := by
  have hst := run_storeCells_at P b (sLen * i.size) T news 0 cur w hb (by simpa using hfit) hs.one
  simp only [Nat.add_zero] at hst
  rcases hs.kind with ⟨e', hk⟩ | hk <;> simp [Builtin.append_, run_underlying ht, run_underlying hk, sizeOf, typeInfo, hi, hs.len, hroom, hs.cells, addr_add, hst]

/-- What a call of a builtin, or another operation, comes to. -/
def Comes1 (P : Program) (s : Sem Value) (g : Gh) (w : World) (K : AV → Mem → Prop) : Prop :=
  ∃ c w' g' v M', s.run P w = .ok c w' ∧ K v M' ∧ Ev g w g' w' ∧ ConcA g' w' v c ∧ Rel g' M' w'

theorem zsize {P : Program} {e : TypeId} {inf : TypeInfo} {z : Value} (hi : P.info? e = some inf) (hz : inf.zero = some z) (hs : z.cells.size = inf.size) (n : Nat) : (Builtin.zeroCells z.cells n).size = n * inf.size := by
  rw [zeroCells_size, hs]

theorem run_appendG {P : Program} {g : Gh} {M : Mem} {w : World} (hP : g.P = P) (hR : Rel g M w) {t tx ty : TypeId} {s x : AV} {cs cx : Value} (hs : ConcA g w s cs) (hx : ConcA g w x cx) {K : AV → Mem → Prop} {N : (Nat → Prop) → Prop} (hN : ∀ F : Nat → Prop, N F → ∃ id, g.blk id = none ∧ M id = none ∧ ¬ g.res id ∧ F id)
    (h : appendG N P M t tx s x K) : Comes1 P (Builtin.append_ #[t, tx] ty #[cs, cx]) g w K := by
  unfold appendG at h
  split at h
  · rename_i ti hti
    obtain ⟨inft, d, zt, hinft, hd, hzt, _, _, _, _, hdd⟩ := ti_spec hti
    split at h
    · rename_i e he
      rw [hdd] at he
      have := tdOf_slice he
      subst this
      split at h
      · rename_i te hte
        obtain ⟨inf, de, z, hinf, hde, hz, hsz, hby, _, hza, _⟩ := ti_spec hte
        obtain ⟨hzf', h⟩ := h
        have hzs := zeroFits_spec hzf' hinf hz
        unfold optK at h
        split at h
        · rename_i src hsrc
          obtain ⟨news, hS, hnews, hrs⟩ := src_spec hP hR hd hte hinf hx hsrc
          split at h
          · -- nil
            obtain ⟨hpos, h0, h1⟩ := h
            cases hs with
            | l hs =>
              cases hs with
              | nils =>
                rename_i a
                by_cases hne : src = []
                · subst hne
                  have hn0 : news = [] := List.eq_nil_of_length_eq_zero (by simpa using hS.newsLen)
                  subst hn0
                  refine ⟨_, w, g, _, M, ?_, h0 rfl, Ev.refl g w, .l (.nils (a := a)), hR⟩
                  have hS0 : Src P inf.size tx cx 0 [] w := by simpa using hS
                  rcases hS0.kind with ⟨e', hk⟩ | hk <;> cases a <;> simp [Builtin.append_, run_underlying hd, run_underlying hk, sizeOf, typeInfo, hinf, hS0.len, hS0.cells, storeCells]
                · obtain ⟨hb, hm, hK⟩ := h1 hne
                  obtain ⟨id', hg, hM, hr0, hK'⟩ := hN _ hK
                  have hlen : 0 < src.length := List.length_pos_iff.2 hne
                  have hbb : src.length * inf.bytes ≤ 140737488355328 := by rw [← hby]; exact hb
                  have hrun := run_append_grow_src (P := P) w t tx ty e inf z hd hinf hz a 0 0 [] (by cases a <;> simp [Builtin.firstCells, loadCells, loadCellsFrom]) cx src.length news hS (by omega) (by omega)
                    (growslice_fits (by omega) (by rw [Nat.zero_add]; exact hbb))
                  simp only [Nat.zero_add, List.nil_append] at hrun
                  have hcap := grownCap_ge w src.length 0 e
                  have hfl := flat_len hrs
                  obtain ⟨ev, rel⟩ := rel_new_cells hR hg hM hr0 (Grow1.drew_alloc w (.cells (news.toArray ++ Builtin.zeroCells z.cells (grownCap w src.length 0 e - src.length)) e (0, 0))) src inf.size (grownCap w src.length 0 e)
                    (by rw [Array.size_append, zsize hinf hz hzs, List.size_toArray, hS.newsLen, ← Nat.add_mul]; congr 1; omega) hcap (grownCap_le_maxLen w _ _ _ (by simp only [maxLen]; omega))
                    (by
                      have := rowsAt_flat hrs (rest := (Builtin.zeroCells z.cells (grownCap w src.length 0 e - src.length)).toList) hnews
                      have heq : (news ++ (Builtin.zeroCells z.cells (grownCap w src.length 0 e - src.length)).toList).toArray = news.toArray ++ Builtin.zeroCells z.cells (grownCap w src.length 0 e - src.length) := by
                        apply Array.ext'; simp
                      rw [heq] at this
                      exact this)
                    (by rw [hP]; simp [szOf, hinf])
                  refine ⟨_, _, _, _, _, hrun, hK', ev, .l ?_, rel⟩
                  have := Conc.ms (w := w.drew.alloc (.cells (news.toArray ++ Builtin.zeroCells z.cells (grownCap w src.length 0 e - src.length)) e (0, 0))) (off := 0) (len := src.length) (cap := grownCap w src.length 0 e) (Gh.put_same g id' (w.heap.size, inf.size, grownCap w src.length 0 e)) hcap (by omega)
                  simpa using this
          · -- own
            rename_i id len
            split at h
            · rename_i T rows keep hM
              obtain ⟨hpos, rfl, hlen, hkeep, hb, hm, hK⟩ := h
              obtain ⟨id', hg, hM', hr0, hK'⟩ := hN _ hK
              cases hs with
              | l hs =>
                cases hs with
                | ms hxb h1 h2 =>
                  rename_i b sz cr cap
                  obtain ⟨b', sz', cr', cur, g1, g2, g3, g4, g5, g6, g7, g8, g9⟩ := hR.blk id _ hM
                  have hszT : szOf g.P T = inf.size := by rw [hP]; simp [szOf, hinf]
                  rw [hxb, Option.some.injEq, Prod.mk.injEq, Prod.mk.injEq] at g1
                  obtain ⟨rfl, rfl, rfl⟩ := g1
                  have hbb : (len + src.length) * inf.bytes ≤ 140737488355328 := by rw [← hby]; exact hb
                  rw [hszT] at g9
                  subst g9
                  have hrs0 : ∀ r ∈ rows, r.length = inf.size := g6.1
                  have hrs1 : ∀ r ∈ rows.take len ++ src, r.length = inf.size := fun r hr => by
                    rcases List.mem_append.1 hr with hr | hr
                    · exact hrs0 r (List.mem_of_mem_take hr)
                    · exact hrs r hr
                  have hll : (rows.take len ++ src).length = len + src.length := by simp; omega
                  simp only [Nat.zero_mul] at *
                  by_cases hroom : len + src.length ≤ cap
                  · have hfit : len * inf.size + news.length ≤ cur.size := by rw [hS.newsLen, g4, ← Nat.add_mul]; exact Nat.mul_le_mul_right _ (by omega)
                    have hrun := run_append_room' (P := P) (w := w) t tx ty T inf hd hinf b len cap cx src.length news hS g3 hroom hfit
                    have hget : ∀ j, (cur.toList.take (len * inf.size) ++ news ++ cur.toList.drop (len * inf.size + news.length)).toArray[j]? = if len * inf.size ≤ j ∧ j < len * inf.size + news.length then news[j - len * inf.size]? else cur[j]? := fun j => by
                      have := seg_get cur.toList news (len * inf.size) (by simpa using hfit) j
                      simpa using this
                    obtain ⟨ev1, rel1⟩ := rel_wrote_cells hR hM hxb g3 (Wrote.setRow (cur' := (cur.toList.take (len * inf.size) ++ news ++ cur.toList.drop (len * inf.size + news.length)).toArray) g3)
                      (by rw [← g4]; simp only [List.size_toArray, List.length_append, List.length_take, List.length_drop, Array.length_toList]; omega) (rows' := rows.take len ++ src) (by rw [hll]; omega) g8
                      (fun o ho => by
                        rw [hget, if_neg]
                        have : keep * inf.size ≤ len * inf.size := Nat.mul_le_mul_right _ hkeep
                        omega)
                      ⟨hrs1, fun i j r x hr hx => by
                        have hj : j < inf.size := by rw [← hrs1 r (List.mem_of_getElem? hr)]; exact (List.getElem?_eq_some_iff.1 hx).1
                        rw [hget]
                        by_cases hi : i < len
                        · rw [List.getElem?_append_left (by simp; omega), List.getElem?_take, if_pos hi] at hr
                          obtain ⟨u, hu, hcu⟩ := g6.2 i j r x hr hx
                          have : (i + 1) * inf.size ≤ len * inf.size := Nat.mul_le_mul_right _ hi
                          rw [Nat.add_mul] at this
                          rw [if_neg (by omega)]
                          exact ⟨u, hu, hcu⟩
                        · have htl : (rows.take len).length = len := by simp; omega
                          rw [List.getElem?_append_right (by omega), htl] at hr
                          have hk := (List.getElem?_eq_some_iff.1 hr).1
                          have hfg := flat_get hrs (i - len) j r hr hj
                          rw [hx] at hfg
                          obtain ⟨u, hu, hcu⟩ := hnews.get hfg
                          have hi' : (len + (i - len)) * inf.size = len * inf.size + (i - len) * inf.size := Nat.add_mul _ _ _
                          rw [show len + (i - len) = i by omega] at hi'
                          have hult := (List.getElem?_eq_some_iff.1 hu).1
                          rw [if_pos (by omega), show i * inf.size + j - len * inf.size = (i - len) * inf.size + j by omega]
                          exact ⟨u, hu, hcu⟩⟩ g7 hszT.symm
                    have hid : (M.set id (.cells T (rows.take len ++ src) keep)) id' = none := by
                      rw [Mem.set_app, if_neg]
                      · exact hM'
                      · intro he; subst he; rw [hM'] at hM; cases hM
                    have hidd : (M.set id (.cells T (rows.take len ++ src) keep)) id = some (.cells T (rows.take len ++ src) keep) := by rw [Mem.set_app, if_pos rfl]
                    obtain ⟨ev2, rel2⟩ := rel_rename rel1 hg hid hr0 hxb hidd
                    have hmem : ((M.set id (.cells T (rows.take len ++ src) keep)).del id).set id' (.cells T (rows.take len ++ src) keep) = (M.del id).set id' (.cells T (rows.take len ++ src) keep) := by
                      funext k
                      simp only [Mem.set_app, Mem.del_app]
                      split
                      · rfl
                      · split <;> rfl
                    rw [hmem] at rel2
                    refine ⟨_, _, _, _, _, hrun, hK', ev1.trans ev2, .l ?_, rel2⟩
                    have := Conc.ms (w := w.setRow b (cur.toList.take (len * inf.size) ++ news ++ cur.toList.drop (len * inf.size + news.length)).toArray) (off := 0) (len := len + src.length) (cap := cap) (Gh.put_same g id' (b, inf.size, cr)) hroom h2
                    simpa using this
                  · have hM2 : (M.del id) id' = none := by
                      rw [Mem.del_app]; split
                      · rfl
                      · exact hM'
                    obtain ⟨vs, hv, hcell⟩ := cells_of_ms hR hM (off := 0) (len := len) (by omega) hxb
                    simp only [Nat.zero_mul, List.drop_zero] at hv hcell
                    have hvl : vs.length = len * inf.size := by
                      rw [← hv.1, flat_len (fun r hr => hrs0 r (List.mem_of_mem_take hr)), List.length_take, Nat.min_eq_left hlen]
                    have hrun := run_append_grow_src (P := P) w t tx ty T inf z hd hinf hz (some ⟨b, 0, none⟩) len cap vs
                      (run_firstCells_some w.drew inf.size len ⟨b, 0, none⟩ len cap vs hvl (fun j u hu => by rw [addr_add]; exact hcell j u hu)) cx src.length news hS (by omega) (by omega) (growslice_fits (by omega) hbb)
                    have hcap := grownCap_ge w (len + src.length) cap T
                    have hcl : ConcL g w (rows.take len ++ src).flatten (vs ++ news) := by rw [List.flatten_append]; exact hv.append hnews
                    obtain ⟨ev, rel⟩ := rel_new_cells (rel_del hR id) hg hM2 hr0 (Grow1.drew_alloc w (.cells ((vs ++ news).toArray ++ Builtin.zeroCells z.cells (grownCap w (len + src.length) cap T - (len + src.length))) T (0, 0))) (rows.take len ++ src) inf.size (grownCap w (len + src.length) cap T)
                      (by rw [Array.size_append, zsize hinf hz hzs, List.size_toArray, List.length_append, hvl, hS.newsLen, ← Nat.add_mul, ← Nat.add_mul]; congr 1; omega) (by rw [hll]; exact hcap) (grownCap_le_maxLen w _ _ _ (by simp only [maxLen]; omega))
                      (by
                        have := rowsAt_flat hrs1 (rest := (Builtin.zeroCells z.cells (grownCap w (len + src.length) cap T - (len + src.length))).toList) hcl
                        have heq : ((vs ++ news) ++ (Builtin.zeroCells z.cells (grownCap w (len + src.length) cap T - (len + src.length))).toList).toArray = (vs ++ news).toArray ++ Builtin.zeroCells z.cells (grownCap w (len + src.length) cap T - (len + src.length)) := by
                          apply Array.ext'; simp
                        rw [heq] at this
                        exact this) hszT.symm
                    obtain ⟨ev, rel⟩ : Ev g w (g.put id' (w.heap.size, inf.size, grownCap w (len + src.length) cap T)) (w.drew.alloc (.cells ((vs ++ news).toArray ++ Builtin.zeroCells z.cells (grownCap w (len + src.length) cap T - (len + src.length))) T (0, 0))) ∧
                        Rel (g.put id' (w.heap.size, inf.size, grownCap w (len + src.length) cap T)) ((M.del id).set id' (.cells T (rows.take len ++ src) keep)) (w.drew.alloc (.cells ((vs ++ news).toArray ++ Builtin.zeroCells z.cells (grownCap w (len + src.length) cap T - (len + src.length))) T (0, 0))) := by
                      refine ⟨ev, ?_⟩
                      exact {
                        blk := fun i bk hbk => by
                          rw [Mem.set_app] at hbk
                          by_cases hi : id' = i
                          · subst hi
                            rw [if_pos rfl, Option.some.injEq] at hbk
                            subst hbk
                            have := rel.blk id' (.cells T (rows.take len ++ src) 0) (by rw [Mem.set_app, if_pos rfl])
                            obtain ⟨b1, sz1, cr1, cur1, k1, k2, k3, k4, k5, k6, k7, k8, k9⟩ := this
                            exact ⟨b1, sz1, cr1, cur1, k1, k2, k3, k4, k5, k6, fun o ho => by have := k7 o ho; omega, k8, k9⟩
                          · rw [if_neg hi] at hbk
                            exact rel.blk i bk (by rw [Mem.set_app, if_neg hi]; exact hbk)
                        inj := fun i j bi bj hi hj => by
                          have key : ∀ k bk, (((M.del id).set id' (.cells T (rows.take len ++ src) keep)) k = some bk) → ∃ bk', ((M.del id).set id' (.cells T (rows.take len ++ src) 0)) k = some bk' := fun k bk hk => by
                            rw [Mem.set_app] at hk ⊢
                            by_cases hi : id' = k
                            · exact ⟨_, by rw [if_pos hi]⟩
                            · rw [if_neg hi] at hk
                              exact ⟨bk, by rw [if_neg hi]; exact hk⟩
                          obtain ⟨b1, h1⟩ := key i bi hi
                          obtain ⟨b2, h2⟩ := key j bj hj
                          exact rel.inj i j b1 b2 h1 h2
                        lt := rel.lt
                        fz := rel.fz
                        fin := by
                          obtain ⟨n, hn⟩ := rel.fin
                          refine ⟨n, fun i hi => ⟨(hn i hi).1, ?_, (hn i hi).2.2⟩⟩
                          have := (hn i hi).2.1
                          rw [Mem.set_app] at this ⊢
                          by_cases hii : id' = i
                          · rw [if_pos hii] at this; cases this
                          · rw [if_neg hii] at this ⊢; exact this
                        below := rel.below }
                    refine ⟨_, _, _, _, _, hrun, hK', ev, .l ?_, rel⟩
                    have := Conc.ms (w := w.drew.alloc (.cells ((vs ++ news).toArray ++ Builtin.zeroCells z.cells (grownCap w (len + src.length) cap T - (len + src.length))) T (0, 0))) (off := 0) (len := len + src.length) (cap := grownCap w (len + src.length) cap T) (Gh.put_same g id' (w.heap.size, inf.size, grownCap w (len + src.length) cap T)) hcap (by omega)
                    simpa using this
            · exact h.elim
          · exact h.elim
        · exact h.elim
      · exact h.elim
    · exact h.elim
  · exact h.elim
theorem run_appendK {P : Program} {g : Gh} {M : Mem} {w : World} (hP : g.P = P) (hR : Rel g M w) {t tx ty : TypeId} {s x : AV} {cs cx : Value} (hs : ConcA g w s cs) (hx : ConcA g w x cx) {K : AV → Mem → Prop}
    (h : appendK P M t tx s x K) : Comes1 P (Builtin.append_ #[t, tx] ty #[cs, cx]) g w K := run_appendG hP hR hs hx (fun _ hF => newK_pick hR hF) h

end Go.X
