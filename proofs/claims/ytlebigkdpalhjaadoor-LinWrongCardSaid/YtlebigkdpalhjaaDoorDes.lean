/- LinWrong: for every input the law returns true, and each argument reads behind the call as it read before. No condition. -/
import Derived.Test.YtlebigkdpalhjaaDoorRows
import Derived.Test.YtlebigkdpalhjaaDoorCards
import Derived.Test.YtlebigkdpalhjaaDoorTie
import Derived.Lay
import Derived.Handed
import Derived.SevenTiedAt
import Derived.Test.YtlebigkdpalhjaaDoorY5
set_option linter.unusedVariables false
set_option linter.unusedSimpArgs false
namespace Go.Proofs.YtlebigkdpalhjaaDoor.linWrong
open Go.ChangeShapes Go.WideShapes Go.ChangeAt Go.RowKit Go.X

theorem own : ownKnob Tryd.prog.godebug = none := by kernel_rfl
theorem laidOut : laidOutB Tryd.prog = true := by kernel_rfl

set_option maxRecDepth 100000 in
theorem tabs {W : World} (hL : laidMetH Tryd.prog Rows.linWrongRow.laid W) : TabOK Tryd.prog W := by
  rw [MakeChecks.laidMetH_plain _ _ _ (by kernel_rfl)] at hL
  obtain ⟨ps, ⟨g1, t1, cs1, f1, p1, q1, _, _, _, _, ⟨g2, t2, cs2, f2, p2, q2, _, _, _, _, ⟨g, t, cs, fu, p, q, hg, ht, hvar, hd, _, _⟩, _⟩, _⟩, _⟩ := hL
  have hg0 : Tryd.prog.globalNamed "internal/strconv.uint64pow10" = some 0 := by kernel_rfl
  obtain rfl : g = 0 := (Option.some.inj (hg0.symm.trans hg)).symm
  have ht0 : (Tryd.prog.globals[0]?).map (·.type) = some 115 := by kernel_rfl
  obtain rfl : t = 115 := (Option.some.inj (ht0.symm.trans ht)).symm
  have hd' : DataW.trod (fun _ => ()) Tryd.prog W 0 (fun _ => true) false fu 115 cs.toList = some (Lib.tabData .u64 pow10L, p) := hd
  have hcs := Lib.cells_of_tab (P := Tryd.prog) (n := 20) (e := 29) (by kernel_rfl) (by kernel_rfl) (by kernel_rfl) (by kernel_rfl) hd'
  refine ⟨fun _ => ?_, fun h => absurd h (by rw [show Tryd.prog.globals.size = 3 by kernel_rfl]; decide)⟩
  unfold World.var? at hvar
  rw [hg0] at hvar
  simp only [Option.bind_some] at hvar
  split at hvar
  · rename_i cs0 t0 fr0 hh
    simp only [Option.some.injEq] at hvar
    subst hvar
    refine ⟨t0, fr0, hh.trans ?_⟩
    rw [← hcs]
  · cases hvar

set_option maxRecDepth 100000 in
theorem lifted (os : Os) (started : os.Started) (H : Type) (enc : TypeId × Value → H) :
    ReturnsInHanded {} Tryd.checked os 5 .any (fun w args => (Rows.linWrongSpec.pre enc Tryd.prog Tryd.f5 Rows.linWrongRow.domain false w args ∧ laidMetH Tryd.prog Rows.linWrongRow.laid w) ∧ sizedMet enc Tryd.prog Tryd.f5 (OpenSpec.ofChange Rows.linWrongSpec) false w args) (Rows.linWrongSpec.post enc Tryd.prog Tryd.f5 false true false false) := by
  refine returnsInHanded_of_change_and (C := Tryd.checked) (X := fun w _ => laidMetH Tryd.prog Rows.linWrongRow.laid w) (fun _ _ _ hh h => h.of_heap hh) own started (by kernel_rfl) Tryd.func5
    (ChangeSpec.witness_shaped (enc := enc) (C := Tryd.checked) (os := os) (X := fun w _ => laidMetH Tryd.prog Rows.linWrongRow.laid w) false (World.laidAll Tryd.prog os Rows.linWrongRow.laid) #[.slice none 0 0, .slice none 0 0, .int .i64 0, .int .i64 0] 8 (World.laidAll_os _ _ _)
      (World.shaped_of_ZipB (by kernel_rfl) (by kernel_rfl)) (by kernel_rfl) (by kernel_rfl) (by kernel_rfl)
      (by rw [MakeChecks.laidMetH_plain _ _ _ (by kernel_rfl)]; exact laidMet_laidAll _ (by kernel_rfl) (by kernel_rfl))) ?_
  intro W base args ds gs before hval0 hW hcnd hsz0 hL _
  have hval : ∀ (j : Nat) t v, Tryd.f5.params[j]? = some t → args[j]? = some v → Value.okWide Tryd.prog W .any base t v := hval0
  have hW' := hW
  obtain ⟨p, q, hA0, hV, rfl, hfz, hnd⟩ := hW
  have hA : DataW.TrodAll enc Tryd.prog W 0 (fun _ => true) true Tryd.f5.params.toList args.toList ds p := hA0
  have hsz : (DataW.weightsEach Tryd.prog (Tryd.f5.params.toList ++ Rows.linWrongSpec.plain.varTypes Tryd.prog) (ds ++ gs)).all (· ≤ reachBytes) = true := hsz0
  rw [Tryd.params5] at hA hval hsz
  obtain ⟨v0, vs0, d0, ds0, p0, q0, hargs, rfl, rfl, h0, r0⟩ := trodAll_cons hA
  obtain ⟨v1, vs1, d1, ds1, p1, q1, rfl, rfl, rfl, h1, r1⟩ := trodAll_cons r0
  obtain ⟨v2, vs2, d2, ds2, p2, q2, rfl, rfl, rfl, h2, r2⟩ := trodAll_cons r1
  obtain ⟨v3, vs3, d3, ds3, p3, q3, rfl, rfl, rfl, h3, r3⟩ := trodAll_cons r2
  obtain ⟨rfl, rfl, rfl⟩ := trodAll_nil r3
  obtain rfl : args = #[v0, v1, v2, v3] := by cases args; simp_all
  obtain ⟨rfl, rfl⟩ := trodVars_none hV
  have lt0 : ∀ x ∈ p0, x.block < W.heap.size := by obtain ⟨m, hm⟩ := h0; exact DataW.trod_lt m _ _ _ hm
  have w0 : ∀ n ∈ d0.weights Tryd.prog 22, n ≤ reachBytes := fun n hn => of_decide_eq_true (List.all_eq_true.1 hsz n (DataW.weights_mem_each (j := 0) rfl rfl n hn))
  have lt1 : ∀ x ∈ p1, x.block < W.heap.size := by obtain ⟨m, hm⟩ := h1; exact DataW.trod_lt m _ _ _ hm
  have w1 : ∀ n ∈ d1.weights Tryd.prog 46, n ≤ reachBytes := fun n hn => of_decide_eq_true (List.all_eq_true.1 hsz n (DataW.weights_mem_each (j := 1) rfl rfl n hn))
  have lt2 : ∀ x ∈ p2, x.block < W.heap.size := by obtain ⟨m, hm⟩ := h2; exact DataW.trod_lt m _ _ _ hm
  have w2 : ∀ n ∈ d2.weights Tryd.prog 3, n ≤ reachBytes := fun n hn => of_decide_eq_true (List.all_eq_true.1 hsz n (DataW.weights_mem_each (j := 2) rfl rfl n hn))
  have lt3 : ∀ x ∈ p3, x.block < W.heap.size := by obtain ⟨m, hm⟩ := h3; exact DataW.trod_lt m _ _ _ hm
  have w3 : ∀ n ∈ d3.weights Tryd.prog 3, n ≤ reachBytes := fun n hn => of_decide_eq_true (List.all_eq_true.1 hsz n (DataW.weights_mem_each (j := 3) rfl rfl n hn))
  obtain ⟨a0, c0, b0, e0⟩ := arg_prsA (hval 0 22 v0 rfl rfl) h0 w0
  obtain ⟨a1, c1, b1, e1⟩ := arg_opsA (hval 1 46 v1 rfl rfl) h1 w1
  obtain ⟨a2, c2⟩ := arg_int (hval 2 3 v2 rfl rfl) h2 w2
  obtain ⟨a3, c3, b3, e3⟩ := arg_intr (hval 3 3 v3 rfl rfl) h3 w3
  refine (calls_law (linWrong_walk a0 a1 a2 a3 b0 e0 b1 e1 ⟨b3, e3⟩ mem0) (argsR_cons c0 (argsR_cons c1 (argsR_cons c2 (argsR_cons c3 (argsR_nil))))) (tabs hL)).mono fun e W' ⟨he, bel⟩ => ?_
  subst he
  exact ⟨_, rfl, _, _, _, [], _, [], hW', trodAll_mk1 (shut_bool Tryd.underlying4 _), (trodAll_cons_mk (Below.trod laidOut (by kernel_rfl) (of_decide_eq_true (by kernel_rfl)) h0 bel lt0) (trodAll_cons_mk (Below.trod laidOut (by kernel_rfl) (of_decide_eq_true (by kernel_rfl)) h1 bel lt1) (trodAll_cons_mk (Below.trod laidOut (by kernel_rfl) (of_decide_eq_true (by kernel_rfl)) h2 bel lt2) (trodAll_cons_mk (Below.trod laidOut (by kernel_rfl) (of_decide_eq_true (by kernel_rfl)) h3 bel lt3) trodAll_mk0)))), rfl, bel.frame _, fun h => by cases h⟩

theorem over : Rows.linWrongRow.holds Tryd.pinned (OpenSpec.ofChange Rows.linWrongSpec) :=
  OpenClaim.holds_of_wide 5 Tryd.f5 rfl rfl rfl rfl rfl rfl rfl ⟨rfl, rfl, rfl, rfl, rfl⟩ rfl rfl rfl rfl rfl (by kernel_rfl) Tryd.func5 (by kernel_rfl)
    (of_decide_eq_true (by kernel_rfl)) (by unfold Func.isWrapper; first | (rw [if_pos (by decide +kernel)]; kernel_rfl) | (rw [if_neg (by decide +kernel)]; exact ⟨rfl, rfl⟩))
    (fun os started H enc _ => lifted os started H enc)

theorem proved : Rows.LinWrongCardSaid :=
  Claim7.holds_tied_plain_at .later [] [.data, .data, .data] true (true, "d8447ce276f5385e0ee9f033296c22aa17b20e7ac18fec9fc1af269cf5249b75") false over (fun _ h => by cases h) (by kernel_rfl) (fun _ h => by cases h) linWrong_row_tie rfl ⟨rfl, rfl⟩ (by kernel_rfl) rfl
    (fun f fn hf hfn => by
      obtain rfl : f = 5 := Option.some.inj ((show Tryd.prog.funcNamed "osier/osierlaw20.LinWrong" = some 5 by kernel_rfl).symm.trans hf) |>.symm
      obtain rfl : fn = Tryd.f5 := (Option.some.inj (Tryd.func5.symm.trans hfn)).symm
      exact ⟨by kernel_rfl, fun j t ht => by
        rw [Tryd.params5] at ht
        have hm : t ∈ [22, 46, 3, 3] := by simpa using Array.mem_of_getElem? ht
        have hall : ([22, 46, 3, 3].all fun u => !Tryd.prog.wantsStandIn u) = true := by kernel_rfl
        exact (show Tryd.prog.wantsStandIn t = false by simpa using List.all_eq_true.1 hall t hm)⟩)
    (by kernel_rfl)
#print axioms proved
end Go.Proofs.YtlebigkdpalhjaaDoor.linWrong

