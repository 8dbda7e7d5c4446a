/- The law VmLoops returns true, whatever the world, as far as the listed variables read as listed; and its card. -/
import Derived.Test.YtjlbdefkkhfhaaaGreatDoorVmLoopsWhole
import Derived.Test.YtjlbdefkkhfhaaaGreatDoorCards
import Derived.Test.YtjlbdefkkhfhaaaGreatDoorTie
import Derived.WalkKit
import Derived.ProofKit
import Derived.OpenShut
import Derived.Deep.DeepHandedRow
namespace Go.Proofs.YtjlbdefkkhfhaaaGreatDoor.vmLoops
open Go.ChangeShapes Go.WideShapes Go.ChangeAt Go.RowKit

theorem own : ownKnob Tryz.prog.godebug = none := by kernel_rfl

theorem laid : laidOutB Tryz.prog = true := by kernel_rfl
theorem readable (t : TypeId) (ht : t ∈ Tryz.f5.params.toList) : Tryz.prog.readableRec t = true ∧ t < Tryz.prog.types.size := by
  rw [Tryz.params5] at ht
  simp only [List.mem_cons, List.not_mem_nil, or_false] at ht
  rcases ht with rfl | rfl
  · exact ⟨by kernel_rfl, by decide +kernel⟩
  · exact ⟨by kernel_rfl, by decide +kernel⟩

set_option maxRecDepth 100000 in
/-- what the call does, from every world that holds the listed variables -/
theorem contract (H : Type) (enc : TypeId × Value → H) (W : World) (base : Nat) (args : Array Value) (ds gs : List (DataW H)) (before : List MemPlace) (hval0 : ∀ (j : Nat) t v, Tryz.f5.params[j]? = some t → args[j]? = some v → Value.okWide Tryz.prog W .any base t v)
    (hW : DataW.Whole enc Tryz.prog Tryz.f5.params.toList Rows.vmLoopsSpec.vars false W args.toList ds gs before) (hL : laidMetH Tryz.prog Rows.vmLoopsRow.laid W) (hS : W.ShapedOpen Tryz.prog) :
    Calls Tryz.prog 5 args W fun e W' => ∃ v, e = .returned v ∧ Rows.vmLoopsSpec.post enc Tryz.prog Tryz.f5 false true false false W args v W' := by
  have hW' := hW
  obtain ⟨p, q, hA0, hV, rfl, hfz, hnd⟩ := hW
  have hA : DataW.TrodAll enc Tryz.prog W 0 (fun _ => true) true Tryz.f5.params.toList args.toList ds p := hA0
  rw [Tryz.params5] at hA
  obtain ⟨v, v', d, d', p1, p2, rfl, rfl, rfl, ⟨fuel, hx⟩, ⟨fuel', hx'⟩⟩ := trodAll_two hA
  obtain ⟨rfl, rfl⟩ := trodVars_none hV
  obtain ⟨n, rfl⟩ := okWide_int Tryz.underlying3 (hval0 0 3 v (by rw [Tryz.params5]; rfl) rfl)
  obtain ⟨b, rfl⟩ := okWide_bool Tryz.underlying4 (hval0 1 4 v' (by rw [Tryz.params5]; rfl) rfl)
  obtain ⟨n', hcs, _, hwf⟩ := DataW.trod_int Tryz.underlying3 hx
  have e : n' = n := by simpa [Value.cells, eq_comm] using hcs
  subst e
  simp only [Lit.wf, Bool.and_eq_true, decide_eq_true_eq] at hwf
  have h1 : -9223372036854775808 ≤ n' := Int.le_trans (by decide) hwf.1
  have h2 : n' ≤ 9223372036854775807 := Int.le_trans hwf.2 (by decide)
  cases b with
  | false =>
    refine (calls_false h1 h2 hS hL).mono fun e W' ⟨he, hb⟩ => ?_
    subst he
    exact ⟨_, rfl, Go.Ab.law_post (tb := 4) laid readable rfl Tryz.underlying4 rfl rfl hW' hb⟩
  | true =>
    refine (calls_true h1 h2 hS hL).mono fun e W' ⟨he, hb⟩ => ?_
    subst he
    exact ⟨_, rfl, Go.Ab.law_post (tb := 4) laid readable rfl Tryz.underlying4 rfl rfl hW' hb⟩

/-- a world for the witness: the settled one, the listed variables holding what their initialisers lay -/
def lay (cs : List Value) : Obj → Obj
  | .cells _ t frozen => .cells cs.toArray t frozen
  | o => o
noncomputable def laidHeap (h : Array Obj) : Array Obj :=
  (h.modify 0 (lay (((Go.Ab.laidMem Tryz.prog Rows.vmLoopsRow.laid).read 0 0 18).getD []))).modify 1 (lay (((Go.Ab.laidMem Tryz.prog Rows.vmLoopsRow.laid).read 1 0 23).getD []))
noncomputable def laidWorld (os : Os) : World := { World.holding Tryz.prog os ⟨#[], #[.int .i64 0, .bool false], []⟩ with heap := laidHeap (World.holding Tryz.prog os ⟨#[], #[.int .i64 0, .bool false], []⟩).heap }
theorem laid_met (os : Os) : laidMet Tryz.prog Rows.vmLoopsRow.laid ((laidWorld os).forCall (fun _ _ => 0) ⟨#[], #[.int .i64 0, .bool false], []⟩).memory :=
  laidMet_of_run' 8 (by kernel_rfl) (by kernel_rfl)
theorem reads (os : Os) {H : Type} (enc : TypeId × Value → H) : ∃ places, DataW.whole enc Tryz.prog ((laidWorld os).forCall (fun _ _ => 0) ⟨#[], #[.int .i64 0, .bool false], []⟩).memory Tryz.f5.params.toList Rows.vmLoopsSpec.vars false (#[.int .i64 0, .bool false] : Array Value).toList 8 = some ([.lit (.int .i64 0), .lit (.bool false)], [], places) :=
  ⟨[], by kernel_rfl⟩

set_option maxRecDepth 100000 in
theorem lifted (os : Os) (started : os.Started) (H : Type) (enc : TypeId × Value → H) (F : Stop.Interp) :
    ReturnsInHanded {} Tryz.checked os 5 .any ((OpenSpec.ofChange Rows.vmLoopsSpec).preRow enc Tryz.prog Tryz.f5 Rows.vmLoopsRow.domain false Rows.vmLoopsRow.laid) (((OpenSpec.ofChange Rows.vmLoopsSpec).at F).post enc Tryz.prog Tryz.f5 false true false false) := by
  obtain ⟨places, hx⟩ := reads os enc
  refine returnsInHanded_of_row (C := Tryz.checked) (s := OpenSpec.ofChange Rows.vmLoopsSpec) own started (by kernel_rfl) Tryz.func5
    (witness_row_at (enc := enc) (C := Tryz.checked) false (laidWorld os) #[.int .i64 0, .bool false] rfl (by kernel_rfl) (by kernel_rfl) (by kernel_rfl)
      (OpenSpec.preRow_of_cond 8 hx (by kernel_rfl) (fun k hk => by cases hk) (by kernel_rfl) (laid_met os))) ?_
  intro W base args ds gs before hval hW _ _ _ hL hS _
  exact contract H enc W base args ds gs before hval hW hL hS

theorem said : Rows.VmLoopsSaid :=
  OpenClaim.holds_of_cond 5 Tryz.f5 rfl rfl rfl rfl rfl rfl rfl ⟨rfl, rfl, rfl, rfl, rfl⟩ rfl rfl rfl rfl rfl (by kernel_rfl) Tryz.func5 (by kernel_rfl)
    (of_decide_eq_true (by kernel_rfl)) (by unfold Func.isWrapper; first | (rw [if_pos (by decide +kernel)]; kernel_rfl) | (rw [if_neg (by decide +kernel)]; exact ⟨rfl, rfl⟩))
    (fun os started H enc _ F => by rw [OpenClaim.pre_eq_preRow]; exact lifted os started H enc F)

theorem plain (f : FuncId) (fn : Func) (hf : Tryz.pinned.checked.prog.funcNamed "dapple/dapplelaw18.VmLoops" = some f) (hfn : Tryz.pinned.checked.prog.funcs[f]? = some fn) :
    true = Tryz.pinned.checked.prog.looks [] ∧ ∀ (j : Nat) t, fn.params[j]? = some t → Tryz.pinned.checked.prog.wantsStandIn t = false := by
  obtain rfl : f = 5 := Option.some.inj ((show Tryz.prog.funcNamed "dapple/dapplelaw18.VmLoops" = some 5 by kernel_rfl).symm.trans hf) |>.symm
  obtain rfl : fn = Tryz.f5 := (Option.some.inj (Tryz.func5.symm.trans hfn)).symm
  refine ⟨by kernel_rfl, fun j t ht => ?_⟩
  rw [Tryz.params5] at ht
  cases j with
  | zero => simp at ht; subst ht; kernel_rfl
  | succ j =>
    cases j with
    | zero => simp at ht; subst ht; kernel_rfl
    | succ j => simp at ht

/-- the statement -/
theorem card : Rows.VmLoopsCardSaid :=
  Claim7.holds_tied_plain_at .later [] _ _ _ _ said (fun _ h => by cases h) (by kernel_rfl) (fun _ h => by cases h) vmLoops_row_tie rfl ⟨rfl, rfl⟩ (by kernel_rfl) rfl plain (by kernel_rfl)
#print axioms card
end Go.Proofs.YtjlbdefkkhfhaaaGreatDoor.vmLoops
