/- The program logic: a weaker end; cutting a walk where ways meet again. -/
import Derived.Test.YthgppaccdlcaiaaXx
set_option linter.unusedVariables false
set_option linter.unusedSimpArgs false
namespace Go.X
open Go.RowKit

theorem optK_mono {α : Type} {o : Option α} {K K' : α → Prop} (hk : ∀ a, K a → K' a) (h : optK o K) : optK o K' := by
  obtain ⟨a, rfl, ha⟩ := optK_elim h
  exact hk a ha
theorem newK_mono {M : Mem} {K K' : Nat → Prop} (hk : ∀ a, K a → K' a) (h : newK M K) : newK M K' := fun id hid => hk id (h id hid)
theorem pickK_mono {c x y : AV} {K K' : AV → Prop} (hk : ∀ a, K a → K' a) (h : pickK c x y K) : pickK c x y K' := by
  unfold pickK at h ⊢
  split at h
  · exact hk _ h
  · exact h.elim
theorem gK_mono {t : AV} {u : Bool} {A B A' B' : Prop} (ha : A → A') (hb : B → B') (h : gK t u A B) : gK t u A' B' := by
  unfold gK at h ⊢
  split at h
  · exact ⟨fun e => ha (h.1 e), fun e => hb (h.2 e)⟩
  · exact hb h
  · exact h.elim
theorem nilSK_mono {q : Bool} {x : AV} {K K' : AV → Prop} (hk : ∀ a, K a → K' a) (h : nilSK q x K) : nilSK q x K' := by
  unfold nilSK at h ⊢
  split at h
  · exact ⟨fun e b => hk _ (h.1 e b), fun e => hk _ (h.2 e)⟩
  · exact fun b => hk _ (h b)
  · exact hk _ h
  · exact h.elim
theorem binK_mono {P : Program} {op : BinOp} {t : TypeId} {x y : Operand} {a b : AV} {K K' : AV → Prop} (hk : ∀ a, K a → K' a) (h : binK P op t x y a b K) : binK P op t x y a b K' := by
  unfold binK at h ⊢
  split at h
  · split at h
    · rename_i e; rw [if_pos e]; exact optK_mono (fun a => hk _) h
    · rename_i e; rw [if_neg e]; exact optK_mono (fun a => hk _) h
  · split at h
    · split at h
      · rename_i e; rw [if_pos e]
        split at h
        · split at h
          · exact nilSK_mono hk h
          · exact h.elim
        · exact h.elim
      · rename_i e; rw [if_neg e]; exact optK_mono (fun a => hk _) h
    · split at h
      · rename_i e; rw [if_pos e]
        split at h
        · split at h
          · exact nilSK_mono hk h
          · exact h.elim
        · exact h.elim
      · rename_i e; rw [if_neg e]; exact optK_mono (fun a => hk _) h
    · split at h
      · exact ⟨h.1, hk _ h.2⟩
      · exact h.elim
    · first | exact h.elim | exact optK_mono (fun a => hk _) h
theorem dynK_mono {P : Program} {t : AV} {args : List AV} {M : Mem} {K K' : AV → Mem → Prop} (hk : ∀ a M, K a M → K' a M) (h : dynK P t args M K) : dynK P t args M K' := by
  unfold dynK at h ⊢
  split at h
  · exact h.mono hk
  · exact h.elim
theorem appendK_mono {P : Program} {M : Mem} {t tx : TypeId} {s x : AV} {K K' : AV → Mem → Prop} (hk : ∀ a M, K a M → K' a M) (h : appendG (newK M) P M t tx s x K) : appendG (newK M) P M t tx s x K' := by
  unfold appendG at h ⊢
  split at h
  · split at h
    · split at h
      · refine ⟨h.1, optK_mono (fun src h => ?_) h.2⟩
        split at h
        · exact ⟨h.1, fun e => hk _ _ (h.2.1 e), fun e => ⟨(h.2.2 e).1, (h.2.2 e).2.1, newK_mono (fun id h => hk _ _ h) (h.2.2 e).2.2⟩⟩
        · split at h
          · obtain ⟨a1, a2, a3, a4, a5, a6, a7⟩ := h
            exact ⟨a1, a2, a3, a4, a5, a6, newK_mono (fun id h => hk _ _ h) a7⟩
          · exact h.elim
        · exact h.elim
      · exact h.elim
    · exact h.elim
  · exact h.elim
theorem appendA_mono {P : Program} {M : Mem} {t tx : TypeId} {s x : AV} {K K' : AV → Mem → Prop} (hk : ∀ a M, K a M → K' a M) (h : appendA (newK M) P M t tx s x K) : appendA (newK M) P M t tx s x K' := by
  unfold appendA at h ⊢
  split at h
  · unfold appendZ at h ⊢
    split at h
    · split at h
      · split at h
        · split at h
          · obtain ⟨a1, a2, a3, a4, a5, a6, a7⟩ := h
            exact ⟨a1, a2, a3, a4, a5, a6, newK_mono (fun id h => hk _ _ h) a7⟩
          · exact h.elim
        · exact h.elim
      · exact h.elim
    · exact h.elim
  · exact appendK_mono hk h
theorem builtK_mono {P : Program} {b : Builtin} {ts : List TypeId} {xs : List AV} {M : Mem} {K K' : AV → Mem → Prop} (hk : ∀ a M, K a M → K' a M) (h : builtG (newK M) P b ts xs M K) : builtG (newK M) P b ts xs M K' := by
  unfold builtG at h ⊢
  split at h
  · exact optK_mono (fun a => hk _ _) h
  · exact appendA_mono hk h
  · exact optK_mono (fun a => hk _ _) h
  · split at h
    · split at h
      · exact hk _ _ h
      · exact h.elim
    · exact h.elim
  · exact optK_mono (fun a => hk _ _) h
  · exact hk _ _ h
  · exact hk _ _ h
  · exact h.elim
theorem vopc_mono {P : Program} {op : Op} {fr : Fr} {M : Mem} {K K' : AV → Mem → Prop} (hk : ∀ a M, K a M → K' a M) (h : vopc P op fr M K) : vopc P op fr M K' := by
  unfold vopc vopcG at h ⊢
  split at h
  · exact hk _ _ h
  · exact hk _ _ h
  · exact pickK_mono (fun a => hk _ _) h
  · exact optK_mono (fun a => optK_mono fun b h => ⟨h.1, newK_mono (fun id => hk _ _) h.2⟩) h
  · exact optK_mono (fun a => optK_mono fun b h => ⟨h.1, newK_mono (fun id => hk _ _) h.2⟩) h
  · exact optK_mono (fun a => hk _ _) h
  · exact optK_mono (fun a => newK_mono fun id => hk _ _) h
  · exact optK_mono (fun a => hk _ _) h
  · exact optK_mono (fun a => hk _ _) h
  · exact optK_mono (fun a => hk _ _) h
  · exact binK_mono (fun a => hk _ _) h
  · exact optK_mono (fun a => hk _ _) h
  · exact optK_mono (fun a => hk _ _) h
  · split at h
    · exact ⟨h.1, optK_mono (fun a => hk _ _) h.2⟩
    · exact h.elim
  · exact optK_mono (fun a => newK_mono fun id => hk _ _) h
  · split at h
    · exact newK_mono (fun id => hk _ _) h
    · exact h.elim
  · exact optK_mono (fun a => hk _ _) h
  · exact optK_mono (fun a => hk _ _) h
  · exact optK_mono (fun a => hk _ _) h
  · exact optK_mono (fun a => hk _ _) h
  · exact optK_mono (fun a => hk _ _) h
  · exact optK_mono (fun a => hk _ _) h
  · exact optK_mono (fun a => hk _ _) h
  · exact optK_mono (fun a => hk _ _) h
  · unfold callG at h ⊢
    split at h
    · exact h.mono hk
    · exact dynK_mono hk h
    · exact builtK_mono hk h
    · exact h.elim
  · exact h.elim
theorem vops_mono {P : Program} {ops : List Oper} {K K' : Fr → Mem → Prop} (hk : ∀ a M, K a M → K' a M) : ∀ (l : List Oper) (fr : Fr) (M : Mem), vops P ops l K fr M → vops P ops l K' fr M
  | [], fr, M, h => hk _ _ h
  | o :: rest, fr, M, h => by
    unfold vops at h ⊢
    split at h
    · exact vopc_mono (fun a M h => vops_mono hk rest _ _ h) h
    · split at h
      · exact gK_mono (fun h => vopc_mono (fun a M h => vops_mono hk rest _ _ h) h) (fun h => vops_mono hk rest _ _ h) h
      · exact h.elim
theorem seqQ_mono {K K' : Fr → Mem → Prop} {Q Q' : XE → Fr → Mem → Prop} (hk : ∀ a M, K a M → K' a M) (hq : ∀ e a M, Q e a M → Q' e a M) : ∀ e a M, seqQ K Q e a M → seqQ K' Q' e a M
  | .normal, _, _, h => hk _ _ h
  | .exit _, _, _, h => hq _ _ _ h
  | .ret, _, _, h => hq _ _ _ h
theorem blockQ_mono {id : Nat} {Q Q' : XE → Fr → Mem → Prop} (hq : ∀ e a M, Q e a M → Q' e a M) : ∀ e a M, blockQ id Q e a M → blockQ id Q' e a M
  | .normal, _, _, h => hq _ _ _ h
  | .ret, _, _, h => hq _ _ _ h
  | .exit i, _, _, h => by
    rw [blockQ_exit] at h ⊢
    split
    · rename_i e; rw [if_pos e] at h; exact hq _ _ _ h
    · rename_i e; rw [if_neg e] at h; exact hq _ _ _ h
theorem condK_mono {t : AV} {A B A' B' : Prop} (ha : A → A') (hb : B → B') (h : condK t A B) : condK t A' B' := by
  unfold condK at h ⊢
  split at h
  · exact ⟨fun e => ha (h.1 e), fun e => hb (h.2 e)⟩
  · exact h.elim
theorem vc_mono {P : Program} {n : Nat} : ∀ (c : Code) {Q Q' : XE → Fr → Mem → Prop} (fr : Fr) (M : Mem), (∀ e a M, Q e a M → Q' e a M) → vc P n c Q fr M → vc P n c Q' fr M
  | .skip, Q, Q', fr, M, hq, h => hq _ _ _ h
  | .ret, Q, Q', fr, M, hq, h => hq _ _ _ h
  | .exit _, Q, Q', fr, M, hq, h => hq _ _ _ h
  | .seq a b, Q, Q', fr, M, hq, h => vc_mono a fr M (seqQ_mono (fun fr M h => vc_mono b fr M hq h) hq) h
  | .cond c a b, Q, Q', fr, M, hq, h => condK_mono (fun h => vc_mono a fr M hq h) (fun h => vc_mono b fr M hq h) h
  | .block id b, Q, Q', fr, M, hq, h => vc_mono b fr M (blockQ_mono hq) h
  | .loop b, Q, Q', fr, M, hq, h => XWp.mono h hq
  | .region id ops true, Q, Q', fr, M, hq, h => XWp.mono h (seqQ_mono (fun a M h => hq _ _ _ h) fun _ _ _ h => h)
  | .region id ops false, Q, Q', fr, M, hq, h => vops_mono (fun a M h => hq _ _ _ h) ops.toList fr M h
  | .scope _, _, _, _, _, _, h => h.elim
  | .label _, _, _, _, _, _, h => h.elim
  | .goto _, _, _, _, _, _, h => h.elim
/-- Where ways meet again: what holds there ('Mid') is all that is known behind it. -/
theorem vc_cut {P : Program} {n : Nat} {a b : Code} {Q : XE → Fr → Mem → Prop} {fr : Fr} {M : Mem} (Mid : Fr → Mem → Prop) (h : vc P n a (seqQ Mid Q) fr M) (h' : ∀ fr M, Mid fr M → vc P n b Q fr M) : vc P n (.seq a b) Q fr M :=
  vc_mono a fr M (seqQ_mono h' fun _ _ _ h => h) h
theorem vc_gen {P : Program} {n : Nat} {c : Code} {Q : XE → Fr → Mem → Prop} {fr : Fr} {M : Mem} (Mid : Fr → Mem → Prop) (h : Mid fr M) (h' : ∀ fr M, Mid fr M → vc P n c Q fr M) : vc P n c Q fr M := h' _ _ h
theorem vc_seq_of {P : Program} {n : Nat} {a b : Code} {Q : XE → Fr → Mem → Prop} {fr : Fr} {M : Mem} (h : vc P n a (seqQ (vc P n b Q) Q) fr M) : vc P n (.seq a b) Q fr M := h
theorem beq_tf : (true == false) = false := rfl
theorem beq_ft : (false == true) = false := rfl
theorem beq_tt : (true == true) = true := rfl
theorem beq_ff : (false == false) = true := rfl
/-- The same of a long region, whose list of operations is written in two pieces. -/
theorem xquietE {P : Program} {n id : Nat} {ops ops' : List Oper} {fr : Fr} {M : Mem} {K : Fr → Mem → Prop} (hl : ops = ops') (hmix : P.follows .mixedOrders = true) (hok : opsOk n ops' = true) (hd : drawOk ops' = true) (h : vdr P ops' ops' (fun fr => K fr M) fr M) : @drawI P n id ops.toArray fr M ⟨K⟩ := by
  subst hl
  exact xquiet hmix hok hd h
end Go.X
