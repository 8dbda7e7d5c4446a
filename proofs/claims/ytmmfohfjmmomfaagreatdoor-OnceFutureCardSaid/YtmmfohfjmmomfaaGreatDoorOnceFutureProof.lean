/- The law OnceFuture returns true, whatever the world, as far as the listed variables read as listed; and its card. -/
import Derived.Test.YtmmfohfjmmomfaaGreatDoorOnceFutureWalk
import Derived.Test.YtmmfohfjmmomfaaGreatDoorCards
import Derived.Test.YtmmfohfjmmomfaaGreatDoorTie
import Derived.WalkKit
import Derived.ProofKit
import Derived.OpenShut
namespace Go.Proofs.YtmmfohfjmmomfaaGreatDoor.onceFuture
open Go.ChangeShapes Go.WideShapes Go.ChangeAt Go.RowKit

theorem own : ownKnob Tryz.prog.godebug = none := by kernel_rfl

theorem laid : laidOutB Tryz.prog = true := by kernel_rfl
theorem readable (t : TypeId) (ht : t ∈ Tryz.f4.params.toList) : Tryz.prog.readableRec t = true ∧ t < Tryz.prog.types.size := by
  rw [Tryz.params4] at ht
  simp only [List.mem_cons, List.not_mem_nil, or_false] at ht
  subst ht
  exact ⟨by kernel_rfl, by decide +kernel⟩

set_option maxRecDepth 100000 in
/-- what the call does, from every world that holds the listed variables -/
theorem contract (H : Type) (enc : TypeId × Value → H) (W : World) (base : Nat) (args : Array Value) (ds gs : List (DataW H)) (before : List MemPlace) (hval0 : ∀ (j : Nat) t v, Tryz.f4.params[j]? = some t → args[j]? = some v → Value.okWide Tryz.prog W .any base t v)
    (hW : DataW.Whole enc Tryz.prog Tryz.f4.params.toList Rows.onceFutureSpec.vars false W args.toList ds gs before) (hL : laidMetH Tryz.prog Rows.onceFutureRow.laid W) (hS : W.ShapedOpen Tryz.prog) :
    Calls Tryz.prog 4 args W fun e W' => ∃ v, e = .returned v ∧ Rows.onceFutureSpec.post enc Tryz.prog Tryz.f4 false true false false W args v W' ∧ W'.os = W.os := by
  have hW' := hW
  obtain ⟨p, q, hA0, hV, rfl, hfz, hnd⟩ := hW
  have hA : DataW.TrodAll enc Tryz.prog W 0 (fun _ => true) true Tryz.f4.params.toList args.toList ds p := hA0
  rw [Tryz.params4] at hA
  obtain ⟨v, d, rfl, rfl, fuel, hx⟩ := trodAll_one hA
  obtain ⟨rfl, rfl⟩ := trodVars_none hV
  obtain ⟨a, len, cap, rfl⟩ := okWide_slice Tryz.underlying23 (hval0 0 23 v (by rw [Tryz.params4]; rfl) rfl)
  have fin : ∀ (L : Go.Ab.Loc) (x : Nat → Nat), Came W.heap.size W L x → ((Value.slice a len cap = .slice none 0 0 ∧ L = ⟨0, 0, 0⟩) ∨ (∃ a0 c, Value.slice a len cap = .slice (some a0) 0 c ∧ L = ⟨0, 0, 0⟩) ∨ (∃ c, 0 < L.extra ∧ Value.slice a len cap = .slice (some ⟨L.block, L.off, none⟩) L.extra c)) →
      Calls Tryz.prog 4 #[.slice a len cap] W fun e W' => ∃ v, e = .returned v ∧ Rows.onceFutureSpec.post enc Tryz.prog Tryz.f4 false true false false W #[.slice a len cap] v W' ∧ W'.os = W.os := by
    intro L x hCame harg
    refine (future_calls (L := L) (x := x) hS hL hCame harg).mono fun e W' ⟨he, hb⟩ => ?_
    subst he
    exact ⟨_, rfl, Go.Ab.law_post (tb := 4) laid readable rfl Tryz.underlying4 rfl rfl hW' hb, hb.os⟩
  rcases open_ints Tryz.underlying23 Tryz.underlying29 (by kernel_rfl) hx with ⟨hcs, _⟩ | ⟨a', len', cap', zs, hcs, _, hle, _, hlen, _, hcell, hwf⟩
  · have e : Value.slice a len cap = .slice none 0 0 := by simpa [Value.cells] using hcs
    exact fin ⟨0, 0, 0⟩ (fun _ => 0) ⟨fun h => absurd h (by simp), fun h => absurd h (by simp), Nat.le_refl _⟩ (.inl ⟨e, rfl⟩)
  · have e : Value.slice a len cap = .slice (some a') len' cap' := by simpa [Value.cells] using hcs
    cases e
    simp only [if_true] at hlen
    by_cases h0 : len = 0
    · subst h0
      exact fin ⟨0, 0, 0⟩ (fun _ => 0) ⟨fun h => absurd h (by simp), fun h => absurd h (by simp), Nat.le_refl _⟩ (.inr (.inl ⟨a', cap, rfl, rfl⟩))
    · have hc0 := hcell 0 (by omega)
      have hadd0 : a'.add 0 = a' := by simp [Addr.add]
      rw [hadd0] at hc0
      unfold World.cell? at hc0
      split at hc0
      case h_2 => cases hc0
      rename_i cc ty fz hh
      split at hc0
      case isTrue => cases hc0
      rename_i hsp
      obtain ⟨B, off, sp⟩ := a'
      have : sp = none := by cases sp <;> simp_all
      subst this
      refine fin ⟨B, off, len⟩ (fun i => (zs.getD i 0).toNat) ⟨fun _ => (Array.getElem?_eq_some_iff.1 hh).1, fun _ => ⟨cc, ty, fz, hh, fun i hi => ?_⟩, Nat.le_refl _⟩ (.inr (.inr ⟨cap, by simp only; omega, rfl⟩))
      simp only at hi
      have hci := hcell i (by omega)
      have hz : 0 ≤ zs.getD i 0 := by
        have hlt : i < zs.length := by omega
        have hm : zs.getD i 0 ∈ zs := by
          rw [List.getD_eq_getElem?_getD, List.getElem?_eq_getElem hlt]
          exact List.getElem_mem hlt
        have := hwf _ hm
        simp only [Lit.wf, Bool.and_eq_true, decide_eq_true_eq] at this
        exact Int.le_trans (by decide : (0 : Int) ≤ IntKind.min .u64) this.1
      have e2 : (⟨B, off, none⟩ : Addr).add i = ⟨B, off + i, none⟩ := by
        unfold Addr.add
        split
        · rename_i h; subst h; rfl
        · rfl
      rw [e2] at hci
      unfold World.cell? at hci
      simp only at hci hh
      rw [hh] at hci
      simp only [Option.isSome_none, Bool.false_eq_true, if_false] at hci
      rw [hci, Int.toNat_of_nonneg hz]

/-- a world for the witness: the settled one, the listed variables holding what their initialisers lay -/
def lay (cs : List Value) : Obj → Obj
  | .cells _ t frozen => .cells cs.toArray t frozen
  | o => o
noncomputable def laidHeap (h : Array Obj) : Array Obj :=
  (h.modify 0 (lay (((Go.Ab.laidMem Tryz.prog Rows.onceFutureRow.laid).read 0 0 18).getD []))).modify 1 (lay (((Go.Ab.laidMem Tryz.prog Rows.onceFutureRow.laid).read 1 0 23).getD []))
noncomputable def laidWorld (os : Os) : World := { World.holding Tryz.prog os ⟨#[], #[.slice none 0 0], []⟩ with heap := laidHeap (World.holding Tryz.prog os ⟨#[], #[.slice none 0 0], []⟩).heap }
theorem laid_met (os : Os) : laidMet Tryz.prog Rows.onceFutureRow.laid ((laidWorld os).forCall (fun _ _ => 0) ⟨#[], #[.slice none 0 0], []⟩).memory :=
  laidMet_of_run' 8 (by kernel_rfl) (by kernel_rfl)
theorem reads (os : Os) {H : Type} (enc : TypeId × Value → H) : ∃ places, DataW.whole enc Tryz.prog ((laidWorld os).forCall (fun _ _ => 0) ⟨#[], #[.slice none 0 0], []⟩).memory Tryz.f4.params.toList Rows.onceFutureSpec.vars false (#[.slice none 0 0] : Array Value).toList 8 = some ([.nil], [], places) :=
  ⟨[], by kernel_rfl⟩

set_option maxRecDepth 100000 in
theorem lifted (os : Os) (started : os.Started) (H : Type) (enc : TypeId × Value → H) (F : Stop.Interp) :
    ReturnsInLeavingWide { calm := true } Tryz.checked os 4 .any ((OpenSpec.ofChange Rows.onceFutureSpec).preRow enc Tryz.prog Tryz.f4 Rows.onceFutureRow.domain false Rows.onceFutureRow.laid)
      ((OpenSpec.ofChange Rows.onceFutureSpec).postWith enc Tryz.prog Tryz.f4 F (outsideKept [.timePasses]) false true false) := by
  obtain ⟨places, hx⟩ := reads os enc
  refine Go.Ab.returnsInLeaving_of_row_time (C := Tryz.checked) (s := Rows.onceFutureSpec) own started (by kernel_rfl) Tryz.func4 (laidWorld os) #[.slice none 0 0] rfl (by kernel_rfl) (by kernel_rfl) (by kernel_rfl)
      (OpenSpec.preRow_of_cond 8 hx (by kernel_rfl) (fun k hk => by cases hk) (by kernel_rfl) (laid_met os)) ?_
  intro W base args ds gs before hval hW hL hS
  exact contract H enc W base args ds gs before hval hW hL hS

set_option maxHeartbeats 4000000 in
theorem facts : joinedFacts Tryz.pinned.checked.prog 4 Tryz.f4 Rows.onceFutureSpec Rows.onceFutureRow = true := by
  simp only [joinedFacts, Bool.and_eq_true]
  repeat' apply And.intro
  all_goals (as_aux_lemma => kernel_rfl)

theorem said : Rows.OnceFutureSaid :=
  OpenClaim.holds_of_wide_leaving_time 4 Tryz.f4 rfl rfl rfl rfl rfl rfl rfl ⟨rfl, rfl, rfl, rfl, rfl⟩ rfl rfl rfl rfl rfl (by kernel_rfl) Tryz.func4 facts
    (of_decide_eq_true (by kernel_rfl)) (by unfold Func.isWrapper; first | (rw [if_pos (by decide +kernel)]; kernel_rfl) | (rw [if_neg (by decide +kernel)]; exact ⟨rfl, rfl⟩))
    (fun os started H enc _ F => by rw [OpenClaim.pre_eq_preRow]; exact lifted os started H enc F)

theorem plain (f : FuncId) (fn : Func) (hf : Tryz.pinned.checked.prog.funcNamed "dapple/dapplelaw25.OnceFuture" = some f) (hfn : Tryz.pinned.checked.prog.funcs[f]? = some fn) :
    true = Tryz.pinned.checked.prog.looks [] ∧ ∀ (j : Nat) t, fn.params[j]? = some t → Tryz.pinned.checked.prog.wantsStandIn t = false := by
  obtain rfl : f = 4 := Option.some.inj ((show Tryz.prog.funcNamed "dapple/dapplelaw25.OnceFuture" = some 4 by kernel_rfl).symm.trans hf) |>.symm
  obtain rfl : fn = Tryz.f4 := (Option.some.inj (Tryz.func4.symm.trans hfn)).symm
  refine ⟨by kernel_rfl, fun j t ht => ?_⟩
  rw [Tryz.params4] at ht
  cases j with
  | zero => simp at ht; subst ht; kernel_rfl
  | succ j => simp at ht

/-- the statement -/
theorem card : Rows.OnceFutureCardSaid :=
  Go.Ab.tied_goes_at .later _ _ _ _ said (by kernel_rfl) onceFuture_row_tie rfl ⟨rfl, rfl⟩ (by kernel_rfl) rfl plain (by kernel_rfl)
#print axioms card
end Go.Proofs.YtmmfohfjmmomfaaGreatDoor.onceFuture
