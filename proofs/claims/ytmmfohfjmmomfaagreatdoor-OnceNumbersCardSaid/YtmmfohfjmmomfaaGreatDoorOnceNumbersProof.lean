/- The law OnceNumbers returns true, whatever the world, as far as the listed variables read as listed; and its card. -/
import Derived.Test.YtmmfohfjmmomfaaGreatDoorOnceNumbersRun
import Derived.Test.YtmmfohfjmmomfaaGreatDoorCards
import Derived.Test.YtmmfohfjmmomfaaGreatDoorTie
import Derived.WalkKit
import Derived.ProofKit
import Derived.OpenShut
namespace Go.Proofs.YtmmfohfjmmomfaaGreatDoor.onceNumbers
open Go.ChangeShapes Go.WideShapes Go.ChangeAt Go.RowKit

theorem own : ownKnob Tryz.prog.godebug = none := by kernel_rfl

/-- what the call does, from every world that holds the listed variables -/
theorem contract (H : Type) (enc : TypeId × Value → H) (W : World) (args : Array Value) (ds gs : List (DataW H)) (before : List MemPlace)
    (hW : DataW.Whole enc Tryz.prog Tryz.f3.params.toList Rows.onceNumbersSpec.vars false W args.toList ds gs before) (hL : laidMetH Tryz.prog Rows.onceNumbersRow.laid W) (hS : W.ShapedOpen Tryz.prog) :
    Calls Tryz.prog 3 args W fun e W' => ∃ v, e = .returned v ∧ Rows.onceNumbersSpec.post enc Tryz.prog Tryz.f3 false true false false W args v W' ∧ W'.os = W.os := by
  have hW' := hW
  obtain ⟨p, q, hA0, hV, rfl, hfz, hnd⟩ := hW
  have hA : DataW.TrodAll enc Tryz.prog W 0 (fun _ => true) true Tryz.f3.params.toList args.toList ds p := hA0
  rw [Tryz.params3] at hA
  obtain ⟨rfl, rfl, rfl⟩ := trodAll_none hA
  obtain ⟨rfl, rfl⟩ := trodVars_none hV
  clear hA0
  simp only [List.append_nil] at hW'
  refine (Go.Ab.closed_run fine works_callers small more (args := #[]) rfl onceNumbers_runs W hS hL).mono fun e W' ⟨he, hb⟩ => ?_
  subst he
  exact ⟨_, rfl, ⟨_, _, _, [], [], [], hW', trodAll_cons_mk (shut_bool Tryz.underlying4 _) trodAll_mk0, trodAll_mk0, rfl, hb.frame _, fun h => by cases h⟩, hb.os⟩

/-- a world for the witness: the settled one, the listed variables holding what their initialisers lay -/
def lay (cs : List Value) : Obj → Obj
  | .cells _ t frozen => .cells cs.toArray t frozen
  | o => o
noncomputable def laidHeap (h : Array Obj) : Array Obj :=
  (h.modify 0 (lay (((Go.Ab.laidMem Tryz.prog Rows.onceNumbersRow.laid).read 0 0 18).getD []))).modify 1 (lay (((Go.Ab.laidMem Tryz.prog Rows.onceNumbersRow.laid).read 1 0 23).getD []))
noncomputable def laidWorld (os : Os) : World := { World.holding Tryz.prog os ⟨#[], #[], []⟩ with heap := laidHeap (World.holding Tryz.prog os ⟨#[], #[], []⟩).heap }
theorem laid_met (os : Os) : laidMet Tryz.prog Rows.onceNumbersRow.laid ((laidWorld os).forCall (fun _ _ => 0) ⟨#[], #[], []⟩).memory :=
  laidMet_of_run' 8 (by kernel_rfl) (by kernel_rfl)
theorem reads (os : Os) {H : Type} (enc : TypeId × Value → H) : ∃ places, DataW.whole enc Tryz.prog ((laidWorld os).forCall (fun _ _ => 0) ⟨#[], #[], []⟩).memory Tryz.f3.params.toList Rows.onceNumbersSpec.vars false (#[] : Array Value).toList 8 = some ([], [], places) :=
  ⟨[], by kernel_rfl⟩

set_option maxRecDepth 100000 in
theorem lifted (os : Os) (started : os.Started) (H : Type) (enc : TypeId × Value → H) (F : Stop.Interp) :
    ReturnsInLeavingWide { calm := true } Tryz.checked os 3 .any ((OpenSpec.ofChange Rows.onceNumbersSpec).preRow enc Tryz.prog Tryz.f3 Rows.onceNumbersRow.domain false Rows.onceNumbersRow.laid)
      ((OpenSpec.ofChange Rows.onceNumbersSpec).postWith enc Tryz.prog Tryz.f3 F (outsideKept [.timePasses]) false true false) := by
  obtain ⟨places, hx⟩ := reads os enc
  refine Go.Ab.returnsInLeaving_of_row_time (C := Tryz.checked) (s := Rows.onceNumbersSpec) own started (by kernel_rfl) Tryz.func3 (laidWorld os) #[] rfl (by kernel_rfl) (by kernel_rfl) (by kernel_rfl)
      (OpenSpec.preRow_of_cond 8 hx (by kernel_rfl) (fun k hk => by cases hk) (by kernel_rfl) (laid_met os)) ?_
  intro W base args ds gs before _ hW hL hS
  exact contract H enc W args ds gs before hW hL hS

set_option maxHeartbeats 4000000 in
theorem facts : joinedFacts Tryz.pinned.checked.prog 3 Tryz.f3 Rows.onceNumbersSpec Rows.onceNumbersRow = true := by
  simp only [joinedFacts, Bool.and_eq_true]
  repeat' apply And.intro
  all_goals (as_aux_lemma => kernel_rfl)

theorem said : Rows.OnceNumbersSaid :=
  OpenClaim.holds_of_wide_leaving_time 3 Tryz.f3 rfl rfl rfl rfl rfl rfl rfl ⟨rfl, rfl, rfl, rfl, rfl⟩ rfl rfl rfl rfl rfl (by kernel_rfl) Tryz.func3 facts
    (of_decide_eq_true (by kernel_rfl)) (by unfold Func.isWrapper; first | (rw [if_pos (by decide +kernel)]; kernel_rfl) | (rw [if_neg (by decide +kernel)]; exact ⟨rfl, rfl⟩))
    (fun os started H enc _ F => by rw [OpenClaim.pre_eq_preRow]; exact lifted os started H enc F)

theorem plain (f : FuncId) (fn : Func) (hf : Tryz.pinned.checked.prog.funcNamed "dapple/dapplelaw25.OnceNumbers" = some f) (hfn : Tryz.pinned.checked.prog.funcs[f]? = some fn) :
    true = Tryz.pinned.checked.prog.looks [] ∧ ∀ (j : Nat) t, fn.params[j]? = some t → Tryz.pinned.checked.prog.wantsStandIn t = false := by
  obtain rfl : f = 3 := Option.some.inj ((show Tryz.prog.funcNamed "dapple/dapplelaw25.OnceNumbers" = some 3 by kernel_rfl).symm.trans hf) |>.symm
  obtain rfl : fn = Tryz.f3 := (Option.some.inj (Tryz.func3.symm.trans hfn)).symm
  refine ⟨by kernel_rfl, fun j t ht => ?_⟩
  rw [Tryz.params3] at ht
  simp at ht

/-- the statement -/
theorem card : Rows.OnceNumbersCardSaid :=
  Go.Ab.tied_goes_at .later _ _ _ _ said (by kernel_rfl) onceNumbers_row_tie rfl ⟨rfl, rfl⟩ (by kernel_rfl) rfl plain (by kernel_rfl)
#print axioms card
end Go.Proofs.YtmmfohfjmmomfaaGreatDoor.onceNumbers
