/- From a lone call's contract to the row of a law that may start goroutines ('leaving', the clock outside). -/
import Derived.Test.YtjlbdefkkhfhaaaGreatDoorAbSteps
import Derived.Conc.HoldsTime
import Derived.Deep.DeepHandedRow
import Derived.SevenTiedAt
import Derived.Carry
namespace Go.Ab
open Go Go.ChangeShapes Go.WideShapes Go.ChangeAt Go.RowKit
noncomputable section

section
variable {P : Program}
def fnOf (P : Program) (f : FuncId) : Func := (pfn P f).getD default
def bodyC (P : Program) (f : FuncId) : Code := ((fnOf P f).body).getD .skip
def itemsC (P : Program) (f : FuncId) : List Code := flatC (bodyC P f)
/-- a function with a Go text, of not too many temporaries -/
def hasBody (P : Program) (f : FuncId) : Bool := (pfn P f).isSome && ((fnOf P f).body).isSome && Nat.ble (fnOf P f).ntmps 1000000
theorem fnOf_spec {f : FuncId} (h : hasBody P f = true) : P.funcs[f]? = some (fnOf P f) ∧ (fnOf P f).body = some (bodyC P f) ∧ (fnOf P f).ntmps ≤ 1000000 := by
  unfold hasBody at h
  simp only [Bool.and_eq_true, Nat.ble_eq] at h
  obtain ⟨⟨h1, h2⟩, h3⟩ := h
  refine ⟨?_, ?_, h3⟩
  · rw [← pfn_eq]
    unfold fnOf
    cases hp : pfn P f with
    | none => rw [hp] at h1; cases h1
    | some fn => rfl
  · unfold bodyC
    cases hb : (fnOf P f).body with
    | none => rw [hb] at h2; cases h2
    | some c => rfl

variable {base : Nat} {C : Callers} {K : Nat}
/-- a call whose body is run by the abstract machine at once, over callers that are sound -/
theorem body_wp (hfine : fineProg P = true) {f : FuncId} (hf : hasBody P f = true) {args args' : Array Value} {m : Inj} (ha : VsRel m args.toList args'.toList) (hl : Nat.ble args.toList.length (fnOf P f).ntmps = true) {w : World} {R : Ending → World → Prop}
    (h : ∀ a', ARel m (DAct.enter (fnOf P f).ntmps args.toList) a' → wpL P ((itemsC P f).drop 0) (bodyPostD P (fnOf P f) R) a' w) : Calls P f args' w R := by
  have _ := hfine
  obtain ⟨h1, h2, h3⟩ := fnOf_spec hf
  refine call_wp h1 h2 ?_
  exact h _ (enter_rel ha (by simpa using hl) h3)

theorem items_fine (hfine : fineProg P = true) {f : FuncId} (hf : hasBody P f = true) : (itemsC P f).all (fineCode P) = true := by
  obtain ⟨h1, h2, _⟩ := fnOf_spec hf
  exact flat_fine _ (fine_of hfine h1 h2)

theorem closed_run (hfine : fineProg P = true) (hC : ∀ base, COK P base C) {laid : List (String × DataW Unit)} (hsz : P.globals.size ≤ 4294967296) (hmore : P.globals.size < (begin P (fun _ _ => 0) default).world.heap.size)
    {f : FuncId} {args : Array Value} (hargs : args.toList.all flat = true) (hrun : isTrue (dBody P C (dDraw P C) K f args (laidMem P laid)) = true) (W : World) (hW : W.ShapedOpen P) (hL : laidMet P laid W) :
    Calls P f args W fun e w' => e = .returned (.bool true) ∧ RowKit.Below W.heap.size W w' := by
  have hR := laid_rel hsz hmore hW hL
  unfold isTrue at hrun
  split at hrun
  · rename_i b M' hcall
    refine (dBody_ok hfine (hC _) (dDraw_ok (hC _)) hcall (flats_rel hargs) hR).mono fun e w' ⟨m', he, hR', hF⟩ => ?_
    cases e with
    | returned v =>
      have he' : VRel m' (.bool b) v := he
      cases he'
      exact ⟨by rw [hrun], hF.below (Nat.le_refl _)⟩
    | panicked c => exact he.elim
    | outgrown => exact he.elim
  · cases hrun
end

section
variable {H : Type} {enc : TypeId × Value → H}
theorem returnsInLeaving_of_row_time {C : Checked} {os : Os} {f : FuncId} {fn : Func} {s : ChangeSpec} {F : Stop.Interp} {conds : List PathCond} {apart fresh handsOn : Bool} {laid : List (String × DataW Unit)}
    (own : ownKnob C.prog.godebug = none) (started : os.Started) (noInit : C.prog.inits.idxOf? f = none) (hfn : C.prog.funcs[f]? = some fn) (w0 : World) (args0 : Array Value) (hos : w0.os = os)
    (hv : (w0.forCall (fun _ _ => 0) ⟨#[], args0, []⟩).variablesB C.prog = true)
    (hr : ((w0.forCall (fun _ _ => 0) ⟨#[], args0, []⟩).heap.toList.drop C.prog.globals.size).take ((begin C.prog (fun _ _ => 0) default).world.heap.size - C.prog.globals.size) =
      (begin C.prog (fun _ _ => 0) default).world.heap.toList.drop C.prog.globals.size)
    (hok : Input.okWideB C.prog (w0.forCall (fun _ _ => 0) ⟨#[], args0, []⟩) f ⟨#[], args0, []⟩ = true)
    (hrow : (OpenSpec.ofChange s).preRow enc C.prog fn conds apart laid (w0.forCall (fun _ _ => 0) ⟨#[], args0, []⟩).memory args0)
    (contract : ∀ (W : World) (base : Nat) (args : Array Value) (ds gs : List (DataW H)) (before : List MemPlace),
      (∀ (j : Nat) t v, fn.params[j]? = some t → args[j]? = some v → Value.okWide C.prog W .any base t v) →
      DataW.Whole enc C.prog fn.params.toList s.vars apart W args.toList ds gs before →
      laidMetH C.prog laid W →
      W.ShapedOpen C.prog →
      Calls C.prog f args W fun e W' => ∃ v, e = .returned v ∧ s.post enc C.prog fn apart fresh handsOn false W args v W' ∧ W'.os = W.os) :
    ReturnsInLeavingWide { calm := true } C os f .any ((OpenSpec.ofChange s).preRow enc C.prog fn conds apart laid) ((OpenSpec.ofChange s).postWith enc C.prog fn F (outsideKept [.timePasses]) apart fresh handsOn) := by
  intro enter
  have H : ReturnsInHanded { calm := true } C os f .any ((OpenSpec.ofChange s).preRow enc C.prog fn conds apart laid) ((OpenSpec.ofChange s).postWith enc C.prog fn F (outsideKept [.timePasses]) apart fresh handsOn) := by
    refine returnsInHanded_of_calls own started noInit ⟨w0, fun _ _ => 0, ⟨#[], args0, []⟩, hos, World.shaped_of_B hv hr, (Input.okWide_of_okWideB (base := 0) hok).1, (Input.okWide_of_okWideB hok).2, hrow, by
      simp only [Assume.holds]
      exact ⟨by simp, fun _ _ _ _ => rfl, by simp, by simp, by simp⟩⟩ ?_
    intro w tape i _ hsh _ hok hpre _
    obtain ⟨_, _, _, fn', hfn', _, _, _, _, hval⟩ := hok
    have e : fn' = fn := Option.some.inj (hfn'.symm.trans hfn)
    subst e
    obtain ⟨⟨hp, hl⟩, _⟩ := hpre
    obtain ⟨ds, gs, before, hw, _, _⟩ := OpenSpec.pre_parts hp
    have hw' := DataW.Whole.of_heap (w' := w.forCall tape i) (by rfl) hw
    refine (contract (w.forCall tape i) w.heap.size i.args ds gs before hval hw' (hl.of_heap (by rfl)) hsh).mono fun e W' ⟨v, he, hp, hos⟩ => ?_
    subst he
    have e2 : ({ W' with os := (w.forCall tape i).os } : World) = W' := by rw [← hos]
    exact postWith_blind (postWith_of_post (by rw [e2]; exact hp) (by rw [hos]; exact .refl _))
  exact ReturnsInOpen.mono (fun _ _ _ x => ⟨x.2.1, onlyLeaving_of_quiet x.1, x.2.2⟩) (fun _ x => x) (H enter)
end

section
variable {H : Type} {enc : TypeId × Value → H} {P : Program}
theorem trodAll_below (hl : laidOutB P = true) {W W' : World} (hb : Below W.heap.size W W') : ∀ {ts : List TypeId} {vs : List Value} {ds : List (DataW H)} {ps : List MemPlace}, (∀ t ∈ ts, P.readableRec t = true ∧ t < P.types.size) →
    DataW.TrodAll enc P W 0 (fun _ => true) true ts vs ds ps → (∀ x ∈ ps, x.block < W.heap.size) → DataW.TrodAll enc P W' 0 (fun b => decide (b < W.heap.size)) true ts vs ds ps
  | [], [], [], _, _, h, _ => h
  | _ :: _, _ :: _, _ :: _, _, hT, ⟨p, q, h1, h2, e⟩, hs =>
    ⟨p, q, Below.trod hl (hT _ (by simp)).1 (hT _ (by simp)).2 h1 hb (fun x hx => hs x (by rw [e]; exact List.mem_append_left _ hx)),
      trodAll_below hl hb (fun t ht => hT t (by simp [ht])) h2 (fun x hx => hs x (by rw [e]; exact List.mem_append_right _ hx)), e⟩
/-- a law that returns true, and has left what was there, meets its specification -/
theorem law_post {f : Func} {s : ChangeSpec} {tb : TypeId} (hl : laidOutB P = true) (hts : ∀ t ∈ f.params.toList, P.readableRec t = true ∧ t < P.types.size) (hres : f.resultTypes = #[tb]) (htb : P.underlying tb = some .bool) (hvars : s.vars = [])
    {W W' : World} {args : Array Value} {ds gs : List (DataW H)} {before : List MemPlace} (hspec : s.fn H (ds ++ gs) = { results := [.lit (.bool true)], args := ds })
    (hW : DataW.Whole enc P f.params.toList s.vars false W args.toList ds gs before) (hb : Below W.heap.size W W') : s.post enc P f false true false false W args (.bool true) W' := by
  have hW' := hW
  obtain ⟨p, q, hA, hV, hps, _, _⟩ := hW
  rw [hvars] at hV
  obtain ⟨rfl, rfl⟩ := trodVars_none hV
  have hlt : ∀ x ∈ p, x.block < W.heap.size := fun x hx => hW'.lt x (by rw [hps]; simpa using hx)
  refine ⟨ds, [], before, [], p, [], hW', ?_, ?_, ?_, ?_, fun h => by cases h⟩
  · rw [hspec, hres]
    exact trodAll_cons_mk (shut_bool htb _) trodAll_mk0
  · rw [hspec]
    exact trodAll_below hl hb hts hA hlt
  · rw [hspec, hvars]
    exact rfl
  · exact hb.frame _
end

/-- a tied card without a companion, of a call that can start goroutines -/
theorem tied_goes_at (Lk : Looks) {p : Pinned} {s : OpenSpec} {c : OpenClaim} (kinds : List LaidKind) (tests : Bool) (har : Bool × String) (lk : Bool)
    (hc : c.holds p s) (hw : c.wfByText s = true) (htie : c.laidByTextAt Lk p kinds tests)
    (hst : c.start = .entering) (hnb : c.noBlocks = false ∧ c.again = false) (hm : p.checked.prog.mainIs = some (har.1, har.2.toList)) (hn : (!har.1 && har.2.isEmpty && !lk) = false)
    (hl : ∀ f fn, p.checked.prog.funcNamed c.func = some f → p.checked.prog.funcs[f]? = some fn → lk = p.checked.prog.looks [] ∧ ∀ (j : Nat) t, fn.params[j]? = some t → p.checked.prog.wantsStandIn t = false)
    (hg : true = c.goesBy p.checked.prog) :
    Claim7.holds p (.plain s) { stood := { row := c, standIns := [], harness := har, looks := lk }, kinds := [], alts := [], goes := true, laidByText := true, laidKinds := kinds, laidTests := tests, laidLooks := Lk } := by
  have h6 : Claim7.isSixth { stood := { row := c, standIns := [], harness := har, looks := lk }, kinds := [] } = false := by simpa [Claim7.isSixth] using hn
  refine ⟨?_, (fun D hD => by cases hD), htie, (fun h => by cases h), hg⟩
  obtain ⟨_, rest⟩ := Claim7.tied_new_at Lk kinds tests (Claim7.new_of_sixth hc har lk hst hnb hm h6 hl) hw
  exact ⟨hw, rest⟩
end
end Go.Ab
