/- Each operation of the abstract machine is what the model's operation does. Last part: calls; all operations together. -/
import Derived.Test.YtjlbdefkkhfhaaaGreatDoorAbExt
namespace Go.Ab
open Go
noncomputable section

section
variable {P : Program} {base : Nat} {m : Inj} {M : Mem} {w : World}

theorem dCallFunc_ok (hR : Rel P base m M w) {f : FuncId} {args args' : Array Value} {r : R} (ha : VsRel m args.toList args'.toList) (h : dCallFunc P f args = some r) :
    OpOK P base m M w (callFunc f args') M r := by
  unfold dCallFunc at h
  try simp only [pfn_eq] at h
  split at h
  · rename_i fn hf
    split at h
    · rename_i c hb
      simp only [cond_eq_ite] at h
      split at h
      · cases h
      · rename_i hn
        cases h
        refine ⟨m, w, .enter f args', ?_, ⟨rfl, ha⟩, hR, Fr.refl _ _ _ _⟩
        have hn' : ¬ fn.name = "runtime.NumGoroutine" := by simpa using hn
        simp [callFunc, hf, hn', hb]
    · rename_i hb
      simp only [cond_eq_ite] at h
      split at h
      · rename_i hfl
        have he : args' = args := Array.toList_inj.1 (flats_eq hfl ha)
        subst he
        split at h
        · rename_i v hp
          split at h
          · rename_i hfv
            cases h
            exact ⟨m, w, .value v, prun_run hp w, flat_rel hfv, hR, Fr.refl _ _ _ _⟩
          · cases h
        · cases h
      · cases h
  · cases h

theorem dMethod_spec {t : TypeId} {name : String} {f : FuncId} (h : dMethod P t name = some f) (n : Nat) (v : Value) :
    (method (n + 1) t v name).run P w = .ok (f, v) w := by
  unfold dMethod at h
  try simp only [pinfo_eq, pund_eq] at h
  split at h
  · rename_i i hi
    split at h
    · rename_i mth hm
      split at h
      · rename_i f0 e hp hf hu
        cases h
        simp [method, run_info w hi, hm, hp, follow, hf, receiverAt, run_und w hu, Place.get]
      · cases h
      · rename_i f0 d hnp hp hf hu
        cases h
        simp only [method, Sem.run_bind, run_info w hi, Result.andThen_ok, hm, hp, follow, Sem.run_pure, hf, receiverAt, run_und w hu]
        cases d <;> first
          | (simp [Place.get]; done)
          | (exact absurd rfl (hnp _))
          | (simp at hnp; done)
      · cases h
    · cases h
  · cases h

theorem dInvoke_ok (hR : Rel P base m M w) {fn : Fn} {c c' : Array Value} {args args' : Array Value} {r : R} (hc : VsRel m c.toList c'.toList)
    (ha : VsRel m args.toList args'.toList) (h : dInvoke P (.fn fn c) args = some r) : OpOK P base m M w (invoke (.fn fn c') args') M r := by
  unfold dInvoke at h
  try simp only [pinfo_eq, pund_eq, pfn_eq] at h
  split at h
  · rename_i f cap he
    cases he
    refine dCallFunc_ok hR ?_ h
    rw [Array.toList_append, Array.toList_append]
    exact ha.append hc
  · rename_i name cap he
    cases he
    split at h
    · rename_i t v rest hl
      rw [hl] at ha
      generalize hal : args'.toList = al at ha
      cases ha with
      | cons h1 h2 =>
        cases h1 with
        | iface hv =>
          rename_i rest' v'
          split at h
          · rename_i f hm
            have ha0 : args'[0]? = some (.iface t v') := by rw [← Array.getElem?_toList, hal]; rfl
            have hrest : (args'.extract 1 args'.size).toList = rest' := by
              rw [Array.toList_extract, List.extract_eq_take_drop, hal]
              have : args'.size = rest'.length + 1 := by rw [← Array.length_toList, hal]; rfl
              rw [this]; simp
            have key := dCallFunc_ok (args' := #[v'] ++ args'.extract 1 args'.size) hR (by
              rw [Array.toList_append, Array.toList_append, hrest]
              exact .cons hv h2) h
            have hmeth := dMethod_spec (w := w) hm (P.types.size + 99) v'
            have hrun : ∀ w0 : World, w0 = w → (invoke (.fn (.method name) c') args').run P w0 = (callFunc f (#[v'] ++ args'.extract 1 args'.size)).run P w0 := by
              intro w0 hw0
              subst hw0
              simp only [invoke, ha0, callMethod, Sem.run_bind, run_program, Result.andThen_ok, show P.types.size + Made.depth = P.types.size + 99 + 1 from rfl, hmeth]
            cases r <;> first | (simp only [OpOK, hrun w rfl]; exact key) | (obtain ⟨q1, q2, q3, q4, q5, q6⟩ := key; exact ⟨q1, q2, q3, q4, by rw [hrun w rfl]; exact q5, q6⟩)
          · cases h
    · cases h
  · cases h

theorem args_rel {ρ ρ' : Operand → Value} {xs : Array Operand} (h : ∀ x ∈ xs, VRel m (ρ x) (ρ' x)) : VsRel m (xs.map ρ).toList (xs.map ρ').toList := by
  rw [Array.toList_map, Array.toList_map]
  exact VsRel.map fun x hx => h x (by simpa using hx)

theorem dResolve_ok {ρ ρ' : Operand → Value} {c : Call} {t : TypeId} {d : Deferred} (hρ : ∀ x ∈ c.operands, VRel m (ρ x) (ρ' x)) (h : dResolve ρ c = some d) :
    ∃ d', (resolve ρ' c t).run P w = .ok d' w ∧ ∃ fn k k', d.target = .fn fn k ∧ d'.target = .fn fn k' ∧ VsRel m k.toList k'.toList ∧ VsRel m d.args.toList d'.args.toList := by
  unfold dResolve at h
  try simp only [pinfo_eq, pund_eq, pfn_eq] at h
  have hargs : VsRel m (c.args.map ρ).toList (c.args.map ρ').toList := args_rel fun x hx => hρ x (by simp [Call.operands, hx])
  split at h
  · cases h
  · rename_i recv name hc
    cases h
    refine ⟨{ target := .fn (.method name) #[], args := #[ρ' recv] ++ c.args.map ρ' }, by simp [resolve, hc], _, _, _, rfl, rfl, .nil, ?_⟩
    rw [Array.toList_append, Array.toList_append]
    exact VsRel.append (.cons (hρ recv (by simp [Call.operands, hc])) .nil) hargs
  · rename_i f hc
    have hf := hρ f (by simp [Call.operands, hc])
    split at h
    · rename_i fn first captured hv
      cases h
      rw [hv] at hf
      generalize hv' : ρ' f = v' at hf
      cases hf with
      | func h1 h2 =>
        rename_i first' captured'
        refine ⟨{ target := .fn fn captured', args := first' ++ c.args.map ρ' }, by simp [resolve, hc, hv', Deferred.ofValue], _, _, _, rfl, rfl, h2, ?_⟩
        rw [Array.toList_append, Array.toList_append]
        exact h1.append hargs
    · cases h

theorem dBuiltin_ok (hR : Rel P base m M w) {b : Builtin} {ts : Array TypeId} {ty : TypeId} {cs : Array Bool} {args args' : List Value} {r : R} {M' : Mem} (ha : VsRel m args args')
    (h : dBuiltin P b ts args M = some (r, M')) : OpOK P base m M w (builtin b ts ty cs args'.toArray) M' r := by
  unfold dBuiltin at h
  try simp only [pinfo_eq, pund_eq, pfn_eq] at h
  split at h
  · rename_i s x a c hts
    cases ha with
    | cons ha1 ha2 => cases ha2 with
      | cons ha2 ha3 =>
        cases ha3
        cases hv : dAppend P s x a c M with
        | none => simp [valM, hv] at h
        | some p =>
          obtain ⟨v, M1⟩ := p
          simp only [valM, hv, Option.map_some, Option.some.injEq, Prod.mk.injEq] at h
          obtain ⟨rfl, rfl⟩ := h
          exact OpOK.valueM (dAppend_ok (ts := ts) hR (by rw [← Array.getElem?_toList, hts]; rfl) (by rw [← Array.getElem?_toList, hts]; rfl) ha1 ha2 hv)
  · rename_i d rest a c hts
    cases ha with
    | cons ha1 ha2 => cases ha2 with
      | cons ha2 ha3 =>
        cases ha3
        cases hv : dCopy P d a c M with
        | none => simp [valM, hv] at h
        | some p =>
          obtain ⟨v, M1⟩ := p
          simp only [valM, hv, Option.map_some, Option.some.injEq, Prod.mk.injEq] at h
          obtain ⟨rfl, rfl⟩ := h
          exact OpOK.valueM (dCopy_ok (ts := ts) hR (by rw [← Array.getElem?_toList, hts]; rfl) ha1 ha2 hv)
  · rename_i t rest a hts
    cases ha with
    | cons ha1 ha2 =>
      cases ha2
      cases hv : dLen P t a M with
      | none => simp [val, hv] at h
      | some v =>
        simp only [val, hv, Option.map_some, Option.some.injEq, Prod.mk.injEq] at h
        obtain ⟨rfl, rfl⟩ := h
        exact OpOK.value hR (dLen_ok (ts := ts) hR (by rw [← Array.getElem?_toList, hts]; rfl) ha1 hv)
  · rename_i t rest a hts
    cases ha with
    | cons ha1 ha2 =>
      cases ha2
      cases hv : dCap P t a M with
      | none => simp [val, hv] at h
      | some v =>
        simp only [val, hv, Option.map_some, Option.some.injEq, Prod.mk.injEq] at h
        obtain ⟨rfl, rfl⟩ := h
        exact OpOK.value hR (dCap_ok (ts := ts) hR (by rw [← Array.getElem?_toList, hts]; rfl) ha1 hv)
  · cases h
    exact ⟨m, w, .recover, rfl, trivial, hR, Fr.refl _ _ _ _⟩
  · rename_i t rest p n hts
    cases ha with
    | cons ha1 ha2 => cases ha2 with
      | cons ha2 ha3 =>
        cases ha3
        cases ha2
        cases hv : dString P t p n M with
        | none => simp [valM, hv] at h
        | some q =>
          obtain ⟨v, M1⟩ := q
          simp only [valM, hv, Option.map_some, Option.some.injEq, Prod.mk.injEq] at h
          obtain ⟨rfl, rfl⟩ := h
          exact OpOK.valueM (dString_ok (ts := ts) hR (by rw [← Array.getElem?_toList, hts]; rfl) ha1 hv)
  · rename_i x
    cases ha with
    | cons ha1 ha2 =>
      cases ha2
      cases hv : dSliceData x with
      | none => simp [val, hv] at h
      | some v =>
        simp only [val, hv, Option.map_some, Option.some.injEq, Prod.mk.injEq] at h
        obtain ⟨rfl, rfl⟩ := h
        exact OpOK.value hR (dSliceData_ok (ts := ts) hR ha1 hv)
  · rename_i x
    cases ha with
    | cons ha1 ha2 =>
      cases ha2
      cases hv : dClose x M with
      | none => simp [valM, hv] at h
      | some q =>
        obtain ⟨v, M1⟩ := q
        simp only [valM, hv, Option.map_some, Option.some.injEq, Prod.mk.injEq] at h
        obtain ⟨rfl, rfl⟩ := h
        exact OpOK.valueM (dClose_ok (ts := ts) hR ha1 hv)
  · cases h

theorem val_some {v : Option Value} {r : R} {M' : Mem} (h : val M v = some (r, M')) : ∃ x, v = some x ∧ r = .val x ∧ M' = M := by
  cases v with
  | none => simp [val] at h
  | some x =>
    simp only [val, Option.map_some, Option.some.injEq, Prod.mk.injEq] at h
    exact ⟨x, rfl, h.1.symm, h.2.symm⟩
theorem valM_some {v : Option (Value × Mem)} {r : R} {M' : Mem} (h : valM v = some (r, M')) : ∃ x, v = some (x, M') ∧ r = .val x := by
  cases v with
  | none => simp [valM] at h
  | some p =>
    simp only [valM, Option.map_some, Option.some.injEq, Prod.mk.injEq] at h
    exact ⟨p.1, by rw [← h.2], h.1.symm⟩

/-- what the machine does with the call's own run, whatever stands ahead of it -/
theorem OpOK.congr {s s' : Sem Next} {M' : Mem} {r : R} (h : s'.run P w = s.run P w) (k : OpOK P base m M w s M' r) : OpOK P base m M w s' M' r := by
  cases r <;> simp only [OpOK, h] <;> exact k

theorem makeChan_ok (hR : Rel P base m M w) {t elem : TypeId} {dir : ChanDir} {i : TypeInfo} {b : Nat} {M' : Mem} (hu : P.underlying t = some (.chan dir elem)) (hi : P.info? elem = some i) (h : M.new (.chan false) = some (b, M')) :
    VOK P base m M w (Instr.makeChan t (.int .i64 (Int.ofNat 0))) (.chan (some b)) M' := by
  let L : Loc := ⟨w.heap.size, 0, 0⟩
  have hw : ∀ B, B < w.heap.size → (w.heap.push (Obj.chan 0 #[] false 0 0 false))[B]? = w.heap[B]? := by
    intro B hB; rw [Array.getElem?_push, if_neg (by omega)]
  obtain ⟨hn, hR'⟩ := Rel.made (w' := { w with heap := w.heap.push (.chan 0 #[] false 0 0 false) }) (L := L) hR h (Nat.le_refl _) (by simp [L]) (by simp) hw
    ⟨0, 0, by simp [L], hR.base⟩
  refine ⟨_, _, .chan (some w.heap.size), ?_, ?_, hR', Fr.made hR h hn rfl rfl rfl (Nat.le_refl _) (by simp) hw⟩
  · simp [Instr.makeChan, asInt, asIntOf, run_und w hu, run_info w hi]
  · exact VRel.chan (m := m.set b L) (Inj.set_same m b L)

theorem dClosed_spec (hR : Rel P base m M w) {x x' : Value} {c : Bool} (hx : VRel m x x') (h : dClosed x M = some c) : ∃ r s k, x' = .chan (some r) ∧ w.heap[r]? = some (.chan 0 #[] c s k false) := by
  unfold dClosed at h
  split at h
  case h_2 => cases h
  rename_i r
  split at h
  case h_2 => cases h
  rename_i hg
  cases h
  cases hx with
  | chan hL =>
    rename_i L
    obtain ⟨s, k, hh, _⟩ := hR.obj r L _ hL hg
    exact ⟨L.block, s, k, rfl, hh⟩

theorem dRecv_ok (hR : Rel P base m M w) {t : TypeId} {x x' v : Value} {ok : Bool} (hx : VRel m x x') (h : dRecv P t x ok M = some v) :
    OpOK P base m M w (do
      let .chan _ elem ← underlying t | stuck "receive: channel type expected"
      pure (.comm #[{ chan := x', send := none, zero := ← zeroValue elem }] true (.recv ok))) M (.comm v) := by
  unfold dRecv at h
  simp only [pund_eq] at h
  split at h
  case h_2 => cases h
  rename_i dir elem hu
  split at h
  case h_2 => cases h
  rename_i z hz hc
  cases h
  obtain ⟨r, s, k, rfl, hh⟩ := dClosed_spec hR hx hc
  have hzz := flat_rel (m := m) (zeroOf_flat hz)
  refine ⟨#[Conc.rcase r z], true, .recv ok, Conc.got ok z false, by simp [run_und w hu, run_zero w hz]; rfl, ?_, fun fr cs es hst => Conc.step_lone_recv_shut ok hst hh, rfl⟩
  cases ok with
  | false => exact hzz
  | true => exact .tuple (.cons hzz (.cons (.bool _) .nil))

theorem step_select_shut {fr : Frame} {cs : List Frame} {w₁ : World} {es : Array Event} {c cap s r : Nat} {tm : Bool} {z : Value} (h : stepG P true (Conc.G fr cs) w = .comm (Conc.G fr cs) #[Conc.rcase c z] false .select w₁ es) (hc : w₁.heap[c]? = some (.chan cap #[] true s r tm)) :
    step P (Conc.solo (Conc.G fr cs) w) = .next (Conc.solo (Conc.G (fr.finish (.tuple #[goInt 0, .bool false, z])) cs) w₁) := by
  have hp := Conc.partners_alone (c := c) true
  rw [step, Conc.stepT_solo rfl]
  simp [runT, Conc.solo, Conc.G, Array.swapAt!, Array.swapAt, h, GStep.es, communicate, ways, Conc.rcase, hc, hp, choose, Sem.run, Question.forced, bind, Sem.bind, pure, Goroutine.finishComm, commResult] at h ⊢

theorem dSelect_ok (hR : Rel P base m M w) {cases : Array SelectCase} {ρ ρ' : Operand → Value} {v : Value} (hρ : ∀ x ∈ (Op.select cases false).operands, VRel m (ρ x) (ρ' x)) (h : dSelect P cases ρ M = some v) :
    OpOK P base m M w (do
      let cases ← cases.mapM fun s => do
        pure { chan := ρ' s.chan, send := s.send.map ρ', zero := ← zeroValue s.elem : CommCase }
      pure (.comm cases false .select)) M (.comm v) := by
  unfold dSelect at h
  split at h
  case h_2 => cases h
  rename_i x e hcs
  have hce : cases = #[⟨x, none, e⟩] := by apply Array.ext'; simpa using hcs
  subst hce
  have hx := hρ x (by simp [Op.operands])
  split at h
  case h_3 => cases h
  · rename_i z hz hc
    cases h
    obtain ⟨r, s, k, hxv, hh⟩ := dClosed_spec hR hx hc
    have hzz := flat_rel (m := m) (zeroOf_flat hz)
    refine ⟨#[Conc.rcase r z], false, .select, .tuple #[goInt 0, .bool false, z], by simp [run_zero w hz, hxv]; rfl, .tuple (.cons (.int _ _) (.cons (.bool _) (.cons hzz .nil))), fun fr cs es hst => step_select_shut hst hh, rfl⟩
  · rename_i z hz hc
    cases h
    obtain ⟨r, s, k, hxv, hh⟩ := dClosed_spec hR hx hc
    have hzz := flat_rel (m := m) (zeroOf_flat hz)
    refine ⟨#[Conc.rcase r z], false, .select, .tuple #[goInt (-1), .bool false, z], by simp [run_zero w hz, hxv]; rfl, .tuple (.cons (.int _ _) (.cons (.bool _) (.cons hzz .nil))), fun fr cs es hst => Conc.step_lone_select_default hst hh, rfl⟩

theorem dOp_ok (hR : Rel P base m M w) {o : Oper} {ρ ρ' : Operand → Value} {r : R} {M' : Mem} (hρ : ∀ x ∈ o.op.operands, VRel m (ρ x) (ρ' x))
    (h : dOp P o ρ M = some (r, M')) : OpOK P base m M w (execOp ρ' o) M' r := by
  unfold dOp at h
  try simp only [pund_eq] at h
  split at h
  · rename_i x ho
    cases h
    rw [ho] at hρ
    unfold execOp; rw [ho]
    exact OpOK.pure hR (hρ x (by simp [Op.operands]))
  · rename_i x ho
    cases h
    rw [ho] at hρ
    unfold execOp; rw [ho]
    exact OpOK.pure hR (hρ x (by simp [Op.operands]))
  · rename_i c a b ho
    rw [ho] at hρ
    have hc := hρ c (by simp [Op.operands])
    split at h
    · rename_i hv
      cases h
      rw [hv] at hc
      refine OpOK.congr (s := Pure.pure (.value (ρ' a))) ?_ (OpOK.pure hR (hρ a (by simp [Op.operands])))
      generalize hcv : ρ' c = cv at hc
      cases hc
      simp [execOp, ho, hcv, asBool]
    · rename_i hv
      cases h
      rw [hv] at hc
      refine OpOK.congr (s := Pure.pure (.value (ρ' b))) ?_ (OpOK.pure hR (hρ b (by simp [Op.operands])))
      generalize hcv : ρ' c = cv at hc
      cases hc
      simp [execOp, ho, hcv, asBool]
    · cases h
  · rename_i t ho
    obtain ⟨v, hv, rfl⟩ := valM_some h
    unfold execOp; rw [ho]
    exact OpOK.valueM (dAlloc_ok hR hv)
  · rename_i t x ho
    obtain ⟨v, hv, rfl⟩ := valM_some h
    rw [ho] at hρ
    unfold execOp; rw [ho]
    exact OpOK.valueM (dBox_ok hR t (hρ x (by simp [Op.operands])) hv)
  · rename_i t parts ho
    obtain ⟨v, hv, rfl, rfl⟩ := val_some h
    rw [ho] at hρ
    unfold execOp; rw [ho]
    have := dBuild_ok (w := w) (pairs_rel (ps := parts) (m := m) hρ) hv
    rw [← pairs_eq] at this
    exact OpOK.value hR this
  · rename_i t len parts ho
    obtain ⟨v, hv, rfl⟩ := valM_some h
    rw [ho] at hρ
    unfold execOp; rw [ho]
    have := dBuildSlice_ok hR (pairs_rel (ps := parts) (m := m) hρ) hv
    rw [← pairs_eq] at this
    exact OpOK.valueM this
  · rename_i t a ho
    obtain ⟨v, hv, rfl, rfl⟩ := val_some h
    rw [ho] at hρ
    unfold execOp; rw [ho]
    exact OpOK.value hR (dLoad_ok hR (hρ a (by simp [Op.operands])) hv)
  · rename_i t a x ho
    cases hs : dStore P t (ρ a) (ρ x) M with
    | none => simp [hs] at h
    | some M1 =>
      simp only [hs, Option.map_some, Option.some.injEq, Prod.mk.injEq] at h
      obtain ⟨rfl, rfl⟩ := h
      rw [ho] at hρ
      unfold execOp; rw [ho]
      exact OpOK.unit (dStore_ok hR (hρ a (by simp [Op.operands])) (hρ x (by simp [Op.operands])) hs)
  · rename_i x ho
    obtain ⟨v, hv, rfl, rfl⟩ := val_some h
    rw [ho] at hρ
    exact dNilCheck_ok hR ho (hρ x (by simp [Op.operands])) hv
  · rename_i op t x y ty ho
    obtain ⟨v, hv, rfl, rfl⟩ := val_some h
    rw [ho] at hρ
    unfold execOp; rw [ho]
    exact OpOK.value hR (dBinOp_ok hR (hρ x (by simp [Op.operands])) (hρ y (by simp [Op.operands])) hv)
  · rename_i t x ho
    rw [ho] at hρ
    have hx := hρ x (by simp [Op.operands])
    split at h
    · cases h
    · rename_i d hnot hu
      cases h
      unfold execOp; rw [ho]
      refine OpOK.value hR ⟨.iface t (ρ' x), ?_, .iface hx⟩
      simp only [Instr.makeInterface, Sem.run_bind, run_und w hu, Result.andThen_ok]
      cases d <;> first | rfl | exact absurd rfl (hnot _)
    · cases h
  · rename_i fn first captured ho
    cases h
    rw [ho] at hρ
    unfold execOp; rw [ho]
    refine OpOK.value hR ⟨.func fn (first.map ρ') (captured.map ρ'), rfl, .func ?_ ?_⟩
    · exact args_rel fun x hx => hρ x (by simp [Op.operands, hx])
    · exact args_rel fun x hx => hρ x (by simp [Op.operands, hx])
  · rename_i t ho
    split at h
    · rename_i k e hu
      cases hn : M.new (.map []) with
      | none => simp [hn] at h
      | some p =>
        obtain ⟨b, M1⟩ := p
        simp only [hn, Option.map_some, Option.some.injEq, Prod.mk.injEq] at h
        obtain ⟨rfl, rfl⟩ := h
        unfold execOp; rw [ho]
        exact OpOK.valueM (makeMap_ok hR hn)
    · cases h
  · rename_i t l c ho
    obtain ⟨v, hv, rfl⟩ := valM_some h
    rw [ho] at hρ
    unfold execOp; rw [ho]
    exact OpOK.valueM (dMakeSlice_ok hR (hρ l (by simp [Op.operands])) (hρ c (by simp [Op.operands])) hv)
  · rename_i t n ho
    rw [ho] at hρ
    have hn := hρ n (by simp [Op.operands])
    split at h
    · rename_i dir elem hu hv
      rw [hv] at hn
      split at h
      · rename_i i hi
        cases hq : M.new (.chan false) with
        | none => simp [hq] at h
        | some p =>
          obtain ⟨b, M1⟩ := p
          simp only [hq, Option.map_some, Option.some.injEq, Prod.mk.injEq] at h
          obtain ⟨rfl, rfl⟩ := h
          unfold execOp; rw [ho]
          have hn' : ρ' n = .int .i64 (Int.ofNat 0) := by
            generalize ρ' n = nv at hn
            cases hn; rfl
          exact OpOK.valueM (by rw [hn']; exact makeChan_ok hR hu (by rw [pinfo_eq] at hi; exact hi) hq)
      · cases h
    · cases h
  · rename_i t x ok ho
    rw [ho] at hρ
    cases hq : dRecv P t (ρ x) ok M with
    | none => simp [hq] at h
    | some v =>
      simp only [hq, Option.map_some, Option.some.injEq, Prod.mk.injEq] at h
      obtain ⟨rfl, rfl⟩ := h
      unfold execOp; rw [ho]
      exact dRecv_ok hR (hρ x (by simp [Op.operands])) hq
  · rename_i cases ho
    rw [ho] at hρ
    cases hq : dSelect P cases ρ M with
    | none => simp [hq] at h
    | some v =>
      simp only [hq, Option.map_some, Option.some.injEq, Prod.mk.injEq] at h
      obtain ⟨rfl, rfl⟩ := h
      unfold execOp; rw [ho]
      exact dSelect_ok hR hρ hq
  · rename_i t x lo hi mx ho
    obtain ⟨v, hv, rfl, rfl⟩ := val_some h
    rw [ho] at hρ
    unfold execOp; rw [ho]
    exact OpOK.value hR (dSlice_ok hR (hρ x (by simp [Op.operands])) (OptRel.map fun y hy => hρ y (by simp [Op.operands] at hy ⊢; simp [hy]))
      (OptRel.map fun y hy => hρ y (by simp [Op.operands] at hy ⊢; simp [hy])) (OptRel.map fun y hy => hρ y (by simp [Op.operands] at hy ⊢; simp [hy])) hv)
  · rename_i s x f ho
    obtain ⟨v, hv, rfl, rfl⟩ := val_some h
    rw [ho] at hρ
    unfold execOp; rw [ho]
    exact OpOK.value hR (dFieldAddr_ok (hρ x (by simp [Op.operands])) hv)
  · rename_i s x f ho
    obtain ⟨v, hv, rfl, rfl⟩ := val_some h
    rw [ho] at hρ
    unfold execOp; rw [ho]
    exact OpOK.value hR (dField_ok (hρ x (by simp [Op.operands])) hv)
  · rename_i t x ix ho
    obtain ⟨v, hv, rfl, rfl⟩ := val_some h
    rw [ho] at hρ
    unfold execOp; rw [ho]
    exact OpOK.value hR (dIndexAddr_ok (hρ x (by simp [Op.operands])) (hρ ix (by simp [Op.operands])) hv)
  · rename_i t x ix ho
    obtain ⟨v, hv, rfl, rfl⟩ := val_some h
    rw [ho] at hρ
    unfold execOp; rw [ho]
    exact OpOK.value hR (dIndex_ok (hρ x (by simp [Op.operands])) (hρ ix (by simp [Op.operands])) hv)
  · rename_i t x ix ok ho
    obtain ⟨v, hv, rfl, rfl⟩ := val_some h
    rw [ho] at hρ
    unfold execOp; rw [ho]
    exact OpOK.value hR (dLookup_ok hR (hρ x (by simp [Op.operands])) (hρ ix (by simp [Op.operands])) hv)
  · rename_i t k0 k x ho
    cases hs : dMapUpdate P t (ρ k0) (ρ k) (ρ x) M with
    | none => simp [hs] at h
    | some M1 =>
      simp only [hs, Option.map_some, Option.some.injEq, Prod.mk.injEq] at h
      obtain ⟨rfl, rfl⟩ := h
      rw [ho] at hρ
      unfold execOp; rw [ho]
      exact OpOK.unit (dMapUpdate_ok hR (hρ k0 (by simp [Op.operands])) (hρ k (by simp [Op.operands])) (hρ x (by simp [Op.operands])) hs)
  · rename_i t k0 k x ho
    cases hs : dMapUpdate P t (ρ k0) (ρ k) (ρ x) M with
    | none => simp [hs] at h
    | some M1 =>
      simp only [hs, Option.map_some, Option.some.injEq, Prod.mk.injEq] at h
      obtain ⟨rfl, rfl⟩ := h
      rw [ho] at hρ
      unfold execOp; rw [ho]
      exact OpOK.unit (dMapUpdate_ok hR (hρ k0 (by simp [Op.operands])) (hρ k (by simp [Op.operands])) (hρ x (by simp [Op.operands])) hs)
  · rename_i x xt t ok ho
    obtain ⟨v, hv, rfl, rfl⟩ := val_some h
    rw [ho] at hρ
    unfold execOp; rw [ho]
    exact OpOK.value hR (dTypeAssert_ok (hρ x (by simp [Op.operands])) hv)
  · rename_i t i ho
    rw [ho] at hρ
    have ht := hρ t (by simp [Op.operands])
    split at h
    · rename_i vs hv
      rw [hv] at ht
      split at h
      · rename_i v hi
        cases h
        generalize htv : ρ' t = tv at ht
        cases ht with
        | tuple hs =>
          rename_i vs'
          obtain ⟨v', h1, h2⟩ := hs.get hi
          unfold execOp; rw [ho]
          refine OpOK.value hR ⟨v', ?_, h2⟩
          rw [Array.getElem?_toList] at h1
          simp [htv, Instr.extract, h1]
      · cases h
    · cases h
  · rename_i c ho
    have hρ0 := hρ
    rw [ho] at hρ
    unfold dCallOp at h
    try simp only [pinfo_eq, pund_eq, pfn_eq] at h
    split at h
    · rename_i b hc
      have hargs : VsRel m (c.args.toList.map ρ) (c.args.toList.map ρ') := VsRel.map fun x hx => hρ x (by simp [Op.operands, Call.operands]; right; simpa using hx)
      split at h
      · rename_i r0 hb
        cases h
        have := dBuiltin_ok (ty := o.type) (cs := c.args.map fun | .const _ => true | _ => false) hR hargs hb
        have he : c.args.map ρ' = (c.args.toList.map ρ').toArray := by apply Array.ext'; simp
        refine OpOK.congr ?_ this
        rw [← he]
        simp [execOp, ho, resolve, hc, invoke]
        rfl
      · obtain ⟨v, hv, rfl, rfl⟩ := val_some h
        exact dGeneric_ok hR (by rw [ho]; intro cs b; simp) hρ0 hv
    · split at h
      · rename_i d hd
        obtain ⟨d', hrun, fn, k, k', e1, e2, h1, h2⟩ := dResolve_ok (P := P) (w := w) (t := o.type) hρ hd
        cases hi : dInvoke P d.target d.args with
        | none =>
          rw [hi] at h
          refine OpOK.congr ?_ (dExtern_ok hR e1 e2 h1 h2 h)
          simp [execOp, ho, hrun]
        | some r0 =>
          simp only [hi, Option.some.injEq, Prod.mk.injEq] at h
          obtain ⟨rfl, rfl⟩ := h
          rw [e1] at hi
          have := dInvoke_ok hR h1 h2 hi
          refine OpOK.congr ?_ this
          simp [execOp, ho, hrun, e2]
      · cases h
  · rename_i c ho
    rw [ho] at hρ
    cases hd : dResolve ρ c with
    | none => simp [hd] at h
    | some d =>
      simp only [hd, Option.map_some, Option.some.injEq, Prod.mk.injEq] at h
      obtain ⟨rfl, rfl⟩ := h
      obtain ⟨d', hrun, hrel⟩ := dResolve_ok (P := P) (w := w) (t := o.type) hρ hd
      exact ⟨m, w, .defer d', by simp [execOp, ho, hrun], hrel, hR, Fr.refl _ _ _ _⟩
  · rename_i x ho
    rw [ho] at hρ
    have hx := hρ x (by simp [Op.operands])
    split at h
    · rename_i t v hv
      cases h
      rw [hv] at hx
      generalize hxv : ρ' x = xv at hx
      cases hx with
      | iface hv' =>
        rename_i v'
        exact ⟨m, w, .iface t v', by simp [execOp, ho, hxv, Instr.panic], .iface hv', hR, Fr.refl _ _ _ _⟩
    · cases h
  · rename_i a b c ho
    obtain ⟨v, hv, rfl, rfl⟩ := val_some h
    exact dGeneric_ok hR (by rw [ho]; intro cs b; simp) hρ hv
  · rename_i src dst x ho
    obtain ⟨v, hv, rfl, rfl⟩ := val_some h
    have hx := hρ x (by rw [ho]; simp [Op.operands])
    unfold dConvert at hv
    try simp only [pund_eq] at hv
    split at hv
    · unfold execOp; rw [ho]
      exact OpOK.value hR (dConvPtr_ok hR hx hv)
    · rename_i b o' len cap hxe
      rw [hxe] at hx
      split at hv
      · rename_i e hs hd
        split at hv
        · rename_i cs he hr
          cases hb : bytesOf cs .empty with
          | none => simp [hb] at hv
          | some s =>
            simp only [hb, Option.map_some, Option.some.injEq] at hv
            subst hv
            unfold execOp; rw [ho]
            exact OpOK.value hR ⟨_, bytesString_ok hR hx hs he hd hr hb, .string _⟩
        · cases hv
      · cases hv
    · exact dGeneric_ok hR (by rw [ho]; intro cs b; simp) hρ hv
  · cases h
end
end
end Go.Ab
