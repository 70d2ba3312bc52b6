/- ViewForms: for every input the law returns true, and each argument reads behind the call as it read before. No condition. -/
import Derived.Test.YtkbcijgbhkahlaaDoorRows
import Derived.Test.YtkbcijgbhkahlaaDoorCards
import Derived.Test.YtkbcijgbhkahlaaDoorTie
import Derived.Lay
import Derived.Handed
import Derived.SevenTiedAt
import Derived.Test.YtkbcijgbhkahlaaDoorY6
set_option linter.unusedVariables false
set_option linter.unusedSimpArgs false
namespace Go.Proofs.YtkbcijgbhkahlaaDoor.viewForms
open Go.ChangeShapes Go.WideShapes Go.ChangeAt Go.RowKit Go.X

theorem own : ownKnob Tryd.prog.godebug = none := by kernel_rfl
theorem laidOut : laidOutB Tryd.prog = true := by kernel_rfl

set_option maxRecDepth 100000 in
theorem tabs {W : World} (hL : laidMetH Tryd.prog Rows.viewFormsRow.laid W) : TabOK Tryd.prog W := by
  rw [MakeChecks.laidMetH_plain _ _ _ (by kernel_rfl)] at hL
  obtain ⟨ps, ⟨g1, t1, cs1, f1, p1, q1, _, _, _, _, ⟨g2, t2, cs2, f2, p2, q2, _, _, _, _, ⟨g, t, cs, fu, p, q, hg, ht, hvar, hd, ⟨g3, t3, cs3, f3, p3, q3, hg3, ht3, hvar3, hd3, ⟨g4, t4, cs4, f4, p4, q4, hg4, ht4, hvar4, hd4, _, _⟩, _⟩, _⟩, _⟩, _⟩, _⟩ := hL
  have hg0 : Tryd.prog.globalNamed "internal/strconv.uint64pow10" = some 0 := by kernel_rfl
  obtain rfl : g = 0 := (Option.some.inj (hg0.symm.trans hg)).symm
  have ht0 : (Tryd.prog.globals[0]?).map (·.type) = some 118 := by kernel_rfl
  obtain rfl : t = 118 := (Option.some.inj (ht0.symm.trans ht)).symm
  have hd' : DataW.trod (fun _ => ()) Tryd.prog W 0 (fun _ => true) false fu 118 cs.toList = some (Lib.tabData .u64 pow10L, p) := hd
  have hcs := Lib.cells_of_tab (P := Tryd.prog) (n := 20) (e := 42) (by kernel_rfl) (by kernel_rfl) (by kernel_rfl) (by kernel_rfl) hd'
  have hgr : Tryd.prog.globalNamed "strconv.ErrRange" = some 2 := by kernel_rfl
  obtain rfl : g3 = 2 := (Option.some.inj (hgr.symm.trans hg3)).symm
  have htr : (Tryd.prog.globals[2]?).map (·.type) = some 97 := by kernel_rfl
  obtain rfl : t3 = 97 := (Option.some.inj (htr.symm.trans ht3)).symm
  have hgs : Tryd.prog.globalNamed "strconv.ErrSyntax" = some 1 := by kernel_rfl
  obtain rfl : g4 = 1 := (Option.some.inj (hgs.symm.trans hg4)).symm
  have hts : (Tryd.prog.globals[1]?).map (·.type) = some 97 := by kernel_rfl
  obtain rfl : t4 = 97 := (Option.some.inj (hts.symm.trans ht4)).symm
  have hie : Tryd.prog.underlying 97 = some (.interface (Tryd.prog.methodsAt 97)) := by kernel_rfl
  obtain ⟨_, u3, v3, e3, _⟩ := iface_of_trod hie hd3
  obtain ⟨_, u4, v4, e4, _⟩ := iface_of_trod hie hd4
  have a3 : cs3 = #[.iface u3 v3] := by rw [← Array.toArray_toList (xs := cs3), e3]
  have a4 : cs4 = #[.iface u4 v4] := by rw [← Array.toArray_toList (xs := cs4), e4]
  have key : ∀ (nm : String) (n : Nat) (cs : Array Value), Tryd.prog.globalNamed nm = some n → W.var? Tryd.prog nm = some cs → ∃ t fr, W.heap[n]? = some (.cells cs t fr) := fun nm n cs hn hv => by
    unfold World.var? at hv
    rw [hn] at hv
    simp only [Option.bind_some] at hv
    split at hv
    · rename_i cs0 t0 fr0 hh
      simp only [Option.some.injEq] at hv
      subst hv
      exact ⟨t0, fr0, hh⟩
    · cases hv
  obtain ⟨tt, fr, h0⟩ := key _ _ _ hg0 hvar
  obtain ⟨tt4, fr4, h4⟩ := key _ _ _ hgs hvar4
  obtain ⟨tt3, fr3, h3⟩ := key _ _ _ hgr hvar3
  refine ⟨fun _ => ⟨tt, fr, h0.trans ?_⟩, fun _ => ⟨⟨u4, v4, tt4, fr4, h4.trans ?_⟩, ⟨u3, v3, tt3, fr3, h3.trans ?_⟩⟩⟩
  · rw [← hcs]
  · rw [a4]
  · rw [a3]

set_option maxRecDepth 100000 in
theorem lifted (os : Os) (started : os.Started) (H : Type) (enc : TypeId × Value → H) :
    ReturnsInHanded {} Tryd.checked os 3 .any (fun w args => (Rows.viewFormsSpec.pre enc Tryd.prog Tryd.f3 Rows.viewFormsRow.domain false w args ∧ laidMetH Tryd.prog Rows.viewFormsRow.laid w) ∧ sizedMet enc Tryd.prog Tryd.f3 (OpenSpec.ofChange Rows.viewFormsSpec) false w args) (Rows.viewFormsSpec.post enc Tryd.prog Tryd.f3 false true false false) := by
  refine returnsInHanded_of_change_and (C := Tryd.checked) (X := fun w _ => laidMetH Tryd.prog Rows.viewFormsRow.laid w) (fun _ _ _ hh h => h.of_heap hh) own started (by kernel_rfl) Tryd.func3
    (ChangeSpec.witness_shaped (enc := enc) (C := Tryd.checked) (os := os) (X := fun w _ => laidMetH Tryd.prog Rows.viewFormsRow.laid w) false (World.laidAll Tryd.prog os Rows.viewFormsRow.laid) #[.agg #[.int .i64 0, .slice none 0 0], .string ⟨#[]⟩] 8 (World.laidAll_os _ _ _)
      (World.shaped_of_ZipB (by kernel_rfl) (by kernel_rfl)) (by kernel_rfl) (by kernel_rfl) (by kernel_rfl)
      (by rw [MakeChecks.laidMetH_plain _ _ _ (by kernel_rfl)]; exact laidMet_laidAll _ (by kernel_rfl) (by kernel_rfl))) ?_
  intro W base args ds gs before hval0 hW hcnd hsz0 hL _
  have hval : ∀ (j : Nat) t v, Tryd.f3.params[j]? = some t → args[j]? = some v → Value.okWide Tryd.prog W .any base t v := hval0
  have hW' := hW
  obtain ⟨p, q, hA0, hV, rfl, hfz, hnd⟩ := hW
  have hA : DataW.TrodAll enc Tryd.prog W 0 (fun _ => true) true Tryd.f3.params.toList args.toList ds p := hA0
  have hsz : (DataW.weightsEach Tryd.prog (Tryd.f3.params.toList ++ Rows.viewFormsSpec.plain.varTypes Tryd.prog) (ds ++ gs)).all (· ≤ reachBytes) = true := hsz0
  rw [Tryd.params3] at hA hval hsz
  obtain ⟨v0, vs0, d0, ds0, p0, q0, hargs, rfl, rfl, h0, r0⟩ := trodAll_cons hA
  obtain ⟨v1, vs1, d1, ds1, p1, q1, rfl, rfl, rfl, h1, r1⟩ := trodAll_cons r0
  obtain ⟨rfl, rfl, rfl⟩ := trodAll_nil r1
  obtain rfl : args = #[v0, v1] := by cases args; simp_all
  obtain ⟨rfl, rfl⟩ := trodVars_none hV
  have lt0 : ∀ x ∈ p0, x.block < W.heap.size := by obtain ⟨m, hm⟩ := h0; exact DataW.trod_lt m _ _ _ hm
  have w0 : ∀ n ∈ d0.weights Tryd.prog 24, n ≤ reachBytes := fun n hn => of_decide_eq_true (List.all_eq_true.1 hsz n (DataW.weights_mem_each (j := 0) rfl rfl n hn))
  have lt1 : ∀ x ∈ p1, x.block < W.heap.size := by obtain ⟨m, hm⟩ := h1; exact DataW.trod_lt m _ _ _ hm
  have w1 : ∀ n ∈ d1.weights Tryd.prog 9, n ≤ reachBytes := fun n hn => of_decide_eq_true (List.all_eq_true.1 hsz n (DataW.weights_mem_each (j := 1) rfl rfl n hn))
  obtain ⟨a0, c0, b0⟩ := arg_treeA (hval 0 24 v0 rfl rfl) h0 w0
  obtain ⟨a1, c1⟩ := arg_strA (hval 1 9 v1 rfl rfl) h1 w1
  refine (calls_law (viewForms_walk a0 a1 b0 mem0) (argsR_cons c0 (argsR_cons c1 (argsR_nil))) (tabs hL)).mono fun e W' ⟨he, bel⟩ => ?_
  subst he
  exact ⟨_, rfl, _, _, _, [], _, [], hW', trodAll_mk1 (shut_bool Tryd.underlying4 _), (trodAll_cons_mk (Below.trod laidOut (by kernel_rfl) (of_decide_eq_true (by kernel_rfl)) h0 bel lt0) (trodAll_cons_mk (Below.trod laidOut (by kernel_rfl) (of_decide_eq_true (by kernel_rfl)) h1 bel lt1) trodAll_mk0)), rfl, bel.frame _, fun h => by cases h⟩

theorem over : Rows.viewFormsRow.holds Tryd.pinned (OpenSpec.ofChange Rows.viewFormsSpec) :=
  OpenClaim.holds_of_wide 3 Tryd.f3 rfl rfl rfl rfl rfl rfl rfl ⟨rfl, rfl, rfl, rfl, rfl⟩ rfl rfl rfl rfl rfl (by kernel_rfl) Tryd.func3 (by kernel_rfl)
    (of_decide_eq_true (by kernel_rfl)) (by unfold Func.isWrapper; first | (rw [if_pos (by decide +kernel)]; kernel_rfl) | (rw [if_neg (by decide +kernel)]; exact ⟨rfl, rfl⟩))
    (fun os started H enc _ => lifted os started H enc)

theorem proved : Rows.ViewFormsCardSaid :=
  Claim7.holds_tied_plain_at .later [] [.data, .data, .data, .sentinel, .sentinel] true (true, "f5b7fef2b5df073c6ac1d8585acb698e7a009569989a42dcabb35b0d9366e3dd") true over (fun _ h => by cases h) (by kernel_rfl) (fun _ h => by cases h) viewForms_row_tie rfl ⟨rfl, rfl⟩ (by kernel_rfl) rfl
    (fun f fn hf hfn => by
      obtain rfl : f = 3 := Option.some.inj ((show Tryd.prog.funcNamed "osier/osierlaw23.ViewForms" = some 3 by kernel_rfl).symm.trans hf) |>.symm
      obtain rfl : fn = Tryd.f3 := (Option.some.inj (Tryd.func3.symm.trans hfn)).symm
      exact ⟨by kernel_rfl, fun j t ht => by
        rw [Tryd.params3] at ht
        have hm : t ∈ [24, 9] := by simpa using Array.mem_of_getElem? ht
        have hall : ([24, 9].all fun u => !Tryd.prog.wantsStandIn u) = true := by kernel_rfl
        exact (show Tryd.prog.wantsStandIn t = false by simpa using List.all_eq_true.1 hall t hm)⟩)
    (by kernel_rfl)
#print axioms proved
end Go.Proofs.YtkbcijgbhkahlaaDoor.viewForms

