/- The program logic: calls whose value is known; slices that are never written again. -/
import Derived.Test.YthgppaccdlcaiaaXw
set_option linter.unusedVariables false
set_option linter.unusedSimpArgs false
namespace Go.X
open Go.RowKit

theorem call_of {P : Program} {f : FuncId} {args : List AV} {M : Mem} {v : AV} {K : AV → Mem → Prop} (h : XCalls P f args M fun r M' => r = v ∧ M' = M) (hk : K v M) : @callI P f args M ⟨K⟩ :=
  callI_of (h.mono (by rintro _ _ ⟨rfl, rfl⟩; exact hk))
/-- A slice of a block that is kept already. -/
theorem XCalls.frz0 {P : Program} {f : FuncId} {args : List AV} {M : Mem} {K : AV → Mem → Prop} (id : Nat) {T keep : Nat} {rows : List (List Lf)} (hM : M id = some (.cells T rows keep)) (hk : rows.length ≤ keep) (h : XCalls P f (args.map (frzA id rows)) M K) : XCalls P f args M K := by
  have e : M.set id (.cells T rows (max keep rows.length)) = M := by
    funext i
    rw [Mem.set_app]
    split
    · rename_i e
      subst e
      rw [hM, Nat.max_eq_left hk]
    · rfl
  exact XCalls.frz id hM (by rw [e]; exact h)
theorem XCalls.kept {P : Program} {f : FuncId} {M : Mem} {K : AV → Mem → Prop} (id n : Nat) {T keep : Nat} {rows : List (List Lf)} (hM : M id = some (.cells T rows keep)) (hn : n = rows.length) (hk : rows.length ≤ keep) (h : XCalls P f [.l (.sl rows)] M K) : XCalls P f [.l (.ms id 0 n)] M K := by
  subst hn
  refine XCalls.frz0 id hM hk ?_
  simpa [frzA, frz1, frzL, List.take_of_length_le] using h
theorem GStep.frz {M : Mem} {id T keep : Nat} {rows : List (List Lf)} (hM : M id = some (.cells T rows keep)) : GStep M (M.set id (.cells T rows (max keep rows.length))) := fun g w hR => by
  obtain ⟨b, sz, cr, hx⟩ := blk_of hR hM
  obtain ⟨e, rel, _⟩ := rel_frz hR hM hx
  exact ⟨_, e, rel⟩
theorem callI_gs {P : Program} {f : FuncId} {args : List AV} {M M' : Mem} {K : AV → Mem → Prop} (h : GStep M M') (hx : @callI P f args M' ⟨K⟩) : @callI P f args M ⟨K⟩ := callI_of (XCalls.gs h hx)
/-- A new block's rows are kept from here on; nil slices in them are slices without rows. -/
theorem GStep.keep {M : Mem} {id T : Nat} {rows rows' : List (List Lf)} (hr : rows.map (fun r => r.map wkL) = rows') : GStep (M.set id (.cells T rows 0)) (M.set id (.cells T rows' rows'.length)) := by
  subst hr
  have h1 := GStep.wk (Mem.set_eq M id (.cells T rows 0))
  have h2 := GStep.frz (Mem.set_eq (M.set id (.cells T rows 0)) id (.cells T (rows.map fun r => r.map wkL) 0))
  have h3 := h1.trans h2
  rw [Mem.set_set, Mem.set_set, Nat.zero_max] at h3
  exact h3
/-- An index out of any number, as 'int(uint64(i)%n)' makes it. -/
def ridx (i : Int) (n : Nat) : Nat := (IntKind.u64.wrap i).toNat % n
theorem ridx_lt (i : Int) {n : Nat} (h : 0 < n) : ridx i n < n := Nat.mod_lt _ h
theorem rem_u64 (i : Int) {n : Nat} (h : 0 < n) (hn : n ≤ 9223372036854775807) : arithA .rem .u64 (IntKind.u64.wrap i) (IntKind.u64.wrap n) = some (.int .u64 (ridx i n : Nat)) := by
  have h1 : IntKind.u64.wrap (n : Int) = n := by rw [IntKind.wrap_u64]; omega
  have h2 : 0 ≤ IntKind.u64.wrap i := by rw [IntKind.wrap_u64]; omega
  obtain ⟨m, hm⟩ := Int.eq_ofNat_of_zero_le h2
  unfold ridx
  rw [h1, hm]
  simp only [arithA]
  rw [if_neg (by omega)]
  simp [Int.tmod]
theorem rem_u64c (i : Int) (n : Nat) (h : 0 < n) (hn : n ≤ 9223372036854775807) (c : Int) (hc : c = n) : arithA .rem .u64 (IntKind.u64.wrap i) c = some (.int .u64 (ridx i n : Nat)) := by
  have h1 : IntKind.u64.wrap (n : Int) = c := by rw [IntKind.wrap_u64]; omega
  have := rem_u64 i h hn
  rwa [h1] at this
/-- The same for a block that is there already. -/
theorem GStep.keep' {N : Mem} {id T : Nat} {rows rows' : List (List Lf)} (hM : N id = some (.cells T rows 0)) (hr : rows.map (fun r => r.map wkL) = rows') : GStep N (N.set id (.cells T rows' rows'.length)) := by
  subst hr
  have h1 := GStep.wk hM
  have h2 := GStep.frz (Mem.set_eq N id (.cells T (rows.map fun r => r.map wkL) 0))
  have h3 := h1.trans h2
  rw [Mem.set_set, Nat.zero_max] at h3
  exact h3
theorem wapp_ms (P : Program) (M : Mem) (nid : Nat) (t tx e : TypeId) (ti te : TI) (hti : tiOf P t = some ti) (hd : ti.d = .slice e) (hte : tiOf P e = some te) (hz : zeroFits P e = true) (hpos : 0 < te.size) (id len : Nat) (x : AV) {rows : List (List Lf)} {keep : Nat} (src : List (List Lf))
    (hM : M id = some (.cells e rows keep)) (hsrc : srcRows P M t tx e te x = some src) (hl : len ≤ rows.length) (hk : keep ≤ len) (hb : (len + src.length) * te.bytes ≤ 140737488355328) (hb' : len + src.length ≤ 140737488355328) {C : AV → Eff → Prop}
    (h : C (.l (.ms nid 0 (len + src.length))) [(id, none), (nid, some (.cells e (rows.take len ++ src) keep))]) : @wappI P M nid t tx (.l (.ms id 0 len)) x ⟨C⟩ := by
  show wapp P M nid t tx (.l (.ms id 0 len)) x C
  unfold wapp
  simp only [hti, hd, hte, hsrc, optK, hM]
  exact ⟨hz, hpos, trivial, hl, hk, hb, hb', h⟩
theorem drawI_gs {P : Program} {n id : Nat} {ops : Array Oper} {K : Fr → Mem → Prop} {fr : Fr} {M M' : Mem} (h : GStep M M') (hx : @drawI P n id ops fr M' ⟨K⟩) : @drawI P n id ops fr M ⟨K⟩ := drawI_of (XWp.gs h hx)
end Go.X
