/- Runs of the abstract machine, second part: calls, deferred calls, recover. -/
import Derived.Test.YtjlbdefkkhfhaaaGreatDoorAbRun
namespace Go.Ab
open Go
noncomputable section

section
variable {P : Program} {base : Nat} {m : Inj} {M : Mem} {w : World}

/-! ## entering -/
theorem ofArgs_get : ∀ (vs : List Value) (i : Nat) (t : Tr Value) (j : Nat), i + vs.length < 2 ^ depth →
    (ofArgs i vs t).get j = if i ≤ j ∧ j < i + vs.length then vs[j - i]? else t.get j
  | [], i, t, j, _ => by
    simp only [ofArgs, List.length_nil]
    rw [if_neg (by omega)]
  | v :: vs, i, t, j, h => by
    simp only [List.length_cons] at h
    simp only [ofArgs]
    rw [ofArgs_get vs (i + 1) _ j (by omega)]
    simp only [List.length_cons]
    by_cases h1 : j = i
    · subst h1
      rw [if_neg (by omega), if_pos (by omega), Tr.get_set_same _ _ _ _ (by omega)]
      simp
    · rw [Tr.get_set_ne _ _ _ _ _ h1]
      by_cases h2 : i + 1 ≤ j ∧ j < i + 1 + vs.length
      · rw [if_pos h2, if_pos (by omega)]
        rw [show j - i = (j - (i + 1)) + 1 by omega, List.getElem?_cons_succ]
      · rw [if_neg h2, if_neg (by omega)]

theorem enter_rel {n : Nat} {args args' : Array Value} (ha : VsRel m args.toList args'.toList) (h1 : args.toList.length ≤ n) (h2 : n ≤ 1000000) :
    ARel m (DAct.enter n args.toList) { tmps := args' ++ Array.replicate (n - args'.size) undef, defers := [] } := by
  have hl := ha.length
  rw [Array.length_toList] at hl
  refine ⟨?_, by simp [DAct.enter]; omega, fun i _ => ?_, trivial⟩
  · simp [DAct.enter]; omega
  · simp only [DAct.tmp, DAct.enter]
    rw [ofArgs_get _ _ _ _ (by unfold depth; omega), Nat.zero_add, Array.getD_eq_getD_getElem?, Array.getElem?_append]
    by_cases hi : i < args.toList.length
    · rw [if_pos ⟨Nat.zero_le _, hi⟩, if_pos (by omega), Nat.sub_zero, List.getElem?_eq_getElem hi]
      obtain ⟨v', e1, e2⟩ := ha.get (List.getElem?_eq_getElem hi)
      rw [Array.getElem?_toList] at e1
      rw [e1]; exact e2
    · rw [if_neg (by omega), if_neg (by omega), Tr.get_nil]
      have : ((Array.replicate (n - args'.size) undef)[i - args'.size]?).getD undef = undef := by
        rw [Array.getElem?_replicate]
        split <;> rfl
      rw [this]
      exact undef_rel m

/-! ## results -/
def resOf (tmps : Array Value) : ResultVar → Sem Value
  | .tmp t => pure (tmps.getD t undef)
  | .cell a t => do loadVar t (← asAddr (tmps.getD a undef))
theorem results_eq (fn : Func) (tmps : Array Value) :
    results fn tmps = (do let vs ← fn.results.mapM (resOf tmps); pure (if h : vs.size = 1 then vs[0] else .tuple vs)) := by
  have : (fun (r : ResultVar) => (match r with
    | .tmp t => pure (tmps.getD t undef)
    | .cell a t => do loadVar t (← asAddr (tmps.getD a undef)) : Sem Value)) = resOf tmps := by
    funext r; cases r <;> rfl
  unfold results
  rw [← this]
  rfl
theorem dResults1_ok (hR : Rel P base m M w) {a : DAct} {a' : Act} (hA : ARel m a a') : ∀ {rs : List ResultVar} {vs : List Value}, dResults1 P a M rs = some vs →
    ∃ vs', (rs.mapM (resOf a'.tmps)).run P w = .ok vs' w ∧ VsRel m vs vs'
  | [], vs, h => by
    simp only [dResults1, Option.some.injEq] at h
    subst h
    exact ⟨[], rfl, .nil⟩
  | .tmp t :: rs, vs, h => by
    simp only [dResults1, cond_eq_ite, List.contains_iff_mem] at h
    split at h
    case isTrue => cases h
    rename_i hj
    cases hr : dResults1 P a M rs with
    | none => simp [hr] at h
    | some vs0 =>
      rw [hr] at h; cases h
      obtain ⟨vs', h1, h2⟩ := dResults1_ok hR hA hr
      refine ⟨a'.tmps.getD t undef :: vs', ?_, .cons (hA.tmp t hj) h2⟩
      rw [List.mapM_cons]
      simp only [resOf, Sem.run_bind, Sem.run_pure, Result.andThen_ok, h1]
  | .cell x t :: rs, vs, h => by
    simp only [dResults1, cond_eq_ite, List.contains_iff_mem] at h
    split at h
    case isTrue => cases h
    rename_i hj
    split at h
    · rename_i v hv
      cases hr : dResults1 P a M rs with
      | none => simp [hr] at h
      | some vs0 =>
        rw [hr] at h; cases h
        obtain ⟨vs', h1, h2⟩ := dResults1_ok hR hA hr
        obtain ⟨v', h3, h4⟩ := dLoad_ok hR (hA.tmp x hj) hv
        refine ⟨v' :: vs', ?_, .cons h4 h2⟩
        have h5 : (resOf a'.tmps (.cell x t)).run P w = .ok v' w := by
          rw [← h3]
          have hx := hA.tmp x hj
          unfold dLoad at hv
          try simp only [pund_eq] at hv
          split at hv
          · rename_i b o he
            rw [he] at hx
            obtain ⟨L, hL, hx'⟩ := hx.ptr_inv
            simp only [resOf, hx']
            simp [asAddr, Instr.loadAt, Instr.sureAddr]
          · cases hv
        rw [List.mapM_cons]
        simp only [Sem.run_bind, h5, Sem.run_pure, Result.andThen_ok, h1]
    · cases h

theorem dResults_ok (hR : Rel P base m M w) {a : DAct} {a' : Act} (hA : ARel m a a') {fn : Func} {v : Value} (h : dResults P fn a M = some v) :
    ∃ v', (results fn a'.tmps).run P w = .ok v' w ∧ VRel m v v' := by
  unfold dResults at h
  try simp only [pinfo_eq, pund_eq, pfn_eq] at h
  have run : ∀ {vs : List Value}, dResults1 P a M fn.results.toList = some vs → ∃ vs' : List Value, VsRel m vs vs' ∧
      (results fn a'.tmps).run P w = .ok (if h : vs'.toArray.size = 1 then vs'.toArray[0] else .tuple vs'.toArray) w := by
    intro vs hvs
    obtain ⟨vs', h1, h2⟩ := dResults1_ok hR hA hvs
    refine ⟨vs', h2, ?_⟩
    rw [results_eq, Array.mapM_eq_mapM_toList]
    simp only [Sem.run_bind, Sem.run_map, Sem.run_pure, h1, Result.andThen_ok]
  split at h
  · rename_i v0 hvs
    cases h
    obtain ⟨vs', h1, h2⟩ := run hvs
    cases h1 with
    | cons h3 h4 =>
      cases h4
      exact ⟨_, h2, h3⟩
  · rename_i vs hne hvs
    cases h
    obtain ⟨vs', h1, h2⟩ := run hvs
    refine ⟨_, h2, ?_⟩
    have hl := h1.length
    rw [dif_neg]
    · exact .tuple h1
    · intro hs
      rw [List.size_toArray] at hs
      rw [hs] at hl
      match vs, hl with
      | [v], _ => exact hne v rfl
  · cases h

/-! ## deferred calls -/
theorem dInvoke_enter {fn : Fn} {c c' : Array Value} {args args' : Array Value} {f : FuncId} {as : Array Value} (hc : VsRel m c.toList c'.toList)
    (ha : VsRel m args.toList args'.toList) (h : dInvoke P (.fn fn c) args = some (.enter f as)) :
    ∃ as', (invoke (.fn fn c') args').run P w = .ok (.enter f as') w ∧ VsRel m as.toList as'.toList := by
  have call : ∀ {g : FuncId} {xs xs' : Array Value}, VsRel m xs.toList xs'.toList → dCallFunc P g xs = some (.enter f as) →
      (callFunc g xs').run P w = .ok (.enter f xs') w ∧ VsRel m as.toList xs'.toList := by
    intro g xs xs' hx h
    unfold dCallFunc at h
    try simp only [pfn_eq] at h
    split at h
    · rename_i fn hf
      split at h
      · rename_i c hb
        simp only [cond_eq_ite] at h
        split at h
        · cases h
        · rename_i hn
          cases h
          have hn' : ¬ fn.name = "runtime.NumGoroutine" := by simpa using hn
          exact ⟨by simp [callFunc, hf, hn', hb], hx⟩
      · simp only [cond_eq_ite] at h
        split at h
        · split at h
          · split at h <;> cases h
          · cases h
        · cases h
    · cases h
  unfold dInvoke at h
  try simp only [pinfo_eq, pund_eq, pfn_eq] at h
  split at h
  · rename_i g cap he
    cases he
    refine ⟨_, call (xs' := args' ++ c') ?_ h⟩
    rw [Array.toList_append, Array.toList_append]
    exact ha.append hc
  · rename_i name cap he
    cases he
    split at h
    · rename_i t v rest hl
      rw [hl] at ha
      generalize hal : args'.toList = al at ha
      cases ha with
      | cons h1 h2 =>
        cases h1 with
        | iface hv =>
          rename_i rest' v'
          split at h
          · rename_i g hm
            have ha0 : args'[0]? = some (.iface t v') := by rw [← Array.getElem?_toList, hal]; rfl
            have hrest : (args'.extract 1 args'.size).toList = rest' := by
              rw [Array.toList_extract, List.extract_eq_take_drop, hal]
              have : args'.size = rest'.length + 1 := by rw [← Array.length_toList, hal]; rfl
              rw [this]; simp
            have key := call (xs' := #[v'] ++ args'.extract 1 args'.size) (by
              rw [Array.toList_append, Array.toList_append, hrest]
              exact .cons hv h2) h
            have hmeth := dMethod_spec (w := w) hm (P.types.size + 99) v'
            refine ⟨_, ?_, key.2⟩
            simp only [invoke, ha0, callMethod, Sem.run_bind, run_program, Result.andThen_ok, show P.types.size + Made.depth = P.types.size + 99 + 1 from rfl, hmeth, key.1]
          · cases h
    · cases h
  · cases h

theorem ChRel.dropWhile : ∀ {l l' : List PanicEntry}, ChRel m l l' → ChRel m (l.dropWhile (!·.goexit)) (l'.dropWhile (!·.goexit))
  | [], [], _ => trivial
  | d :: ds, d' :: ds', ⟨h1, h2⟩ => by
    simp only [List.dropWhile_cons, h1.2.2]
    split
    · exact ChRel.dropWhile h2
    · exact ⟨h1, h2⟩
  | [], _ :: _, h => h.elim
  | _ :: _, [], h => h.elim

theorem URel.settle {u u' : FrameMode} (h : URel m u u') : URel m (settle u) (settle u') := by
  cases u with
  | run => cases u' <;> first | exact h.elim | exact trivial
  | returning => cases u' <;> first | exact h.elim | exact trivial
  | panicking c =>
    cases u' <;> first | exact h.elim | skip
    rename_i c'
    have h' : ChRel m c c' := h
    match c, c', h' with
    | [], [], _ => exact trivial
    | d :: ds, d' :: ds', hc =>
      obtain ⟨h1, h2⟩ := hc
      obtain ⟨v, r, g⟩ := d
      obtain ⟨v', r', g'⟩ := d'
      obtain ⟨hv, hr, hg⟩ := h1
      simp only at hr hg hv
      subst hr; subst hg
      cases r' with
      | false => exact ⟨⟨hv, rfl, rfl⟩, h2⟩
      | true =>
        have h3 := h2.dropWhile
        simp only [Go.settle]
        generalize ds.dropWhile (!·.goexit) = k at h3
        generalize ds'.dropWhile (!·.goexit) = k' at h3
        match k, k', h3 with
        | [], [], _ => exact trivial
        | _ :: _, _ :: _, h3 => exact h3
theorem URel.raised {u u' : FrameMode} (h : URel m u u') {c c' : List PanicEntry} (hc : ChRel m c c') : URel m (raised u c) (raised u' c') := by
  cases u with
  | run => cases u' <;> first | exact h.elim | exact hc
  | returning => cases u' <;> first | exact h.elim | exact hc
  | panicking k =>
    cases u' <;> first | exact h.elim | skip
    exact ChRel.append hc h

variable {C : Callers}

theorem dLeaves_ok (hC : COK P base C) {fn : Func} {a : DAct} {a' : Act} : ∀ {ds ds' : List Deferred} {u u' : FrameMode} {M : Mem} {r : DEnd} {M' : Mem},
    dLeaves P C fn a ds u M = some (r, M') → ∀ {m : Inj} {w : World}, ARel m a a' → DsRel m ds ds' → URel m u u' → Rel P base m M w →
    ∀ (R : Ending → World → Prop), (∀ e w1, (∃ m1, EndRel m1 r e ∧ Rel P base m1 M' w1 ∧ Fr base m m1 M M' w w1) → R e w1) → Leaves P fn a'.tmps R ds' u' w := by
  intro ds
  induction ds with
  | nil =>
    intro ds' u u' M r M' h m w hA hd hu hR R hQ
    cases ds' with
    | cons _ _ => exact hd.elim
    | nil =>
      cases u with
      | run => simp [dLeaves] at h
      | returning =>
        cases u' <;> first | exact hu.elim | skip
        simp only [dLeaves] at h
        cases hr : dResults P fn a M with
        | none => simp [hr] at h
        | some v =>
          simp only [hr, Option.map_some, Option.some.injEq, Prod.mk.injEq] at h
          obtain ⟨rfl, rfl⟩ := h
          obtain ⟨v', h1, h2⟩ := dResults_ok hR hA hr
          exact ⟨v', h1, hQ _ _ ⟨m, h2, hR, Fr.refl _ _ _ _⟩⟩
      | panicking c =>
        cases u' <;> first | exact hu.elim | skip
        simp only [dLeaves, Option.some.injEq, Prod.mk.injEq] at h
        obtain ⟨rfl, rfl⟩ := h
        exact hQ _ _ ⟨m, hu, hR, Fr.refl _ _ _ _⟩
  | cons d ds ih =>
    intro ds' u u' M r M' h m w hA hd hu hR R hQ
    cases ds' with
    | nil => exact hd.elim
    | cons d' ds' =>
      obtain ⟨hd1, hd2⟩ := hd
      have hrun : u ≠ .run := fun e => by rw [e] at h; simp [dLeaves] at h
      have hrun' : u' ≠ .run := fun e => by rw [e] at hu; cases u <;> first | exact hu.elim | exact hrun rfl
      rw [dLeaves] at h
      · split at h
        · rename_i fv cap ht
          split at h
          · rename_i f args hi
            obtain ⟨fn0, c, c', e1, e2, h1, h2⟩ := hd1
            rw [e1] at hi
            obtain ⟨as', hinv, has⟩ := dInvoke_enter (w := w) h1 h2 hi
            refine ⟨hrun', fn0, c', f, as', e2, by rw [e2]; exact hinv, ?_⟩
            cases hc : C.callD f args u M with
            | none => rw [hc] at h; cases h
            | some p =>
              obtain ⟨r0, u1, M1⟩ := p
              rw [hc] at h
              refine (hC.callD hc has hu hR).mono fun e u1' w1 ⟨m1, he, hu1, hR1, hF1⟩ => ?_
              cases r0 with
              | ret v =>
                cases e <;> first | exact he.elim | skip
                exact ih h (hA.mono hF1.le) (hd2.mono hF1.le) hu1.settle hR1 R fun e w2 ⟨m2, p1, p2, p3⟩ => hQ _ _ ⟨m2, p1, p2, hF1.trans p3⟩
              | pan ch =>
                cases e <;> first | exact he.elim | skip
                exact ih h (hA.mono hF1.le) (hd2.mono hF1.le) (hu1.raised he) hR1 R fun e w2 ⟨m2, p1, p2, p3⟩ => hQ _ _ ⟨m2, p1, p2, hF1.trans p3⟩
          · cases h
        · cases h
      · exact fun e => hrun e

/-! ## a call -/
variable {draw : Array Oper → DAct → Mem → Option (Exit × DAct × Mem)} {K : Nat}

theorem fine_of (hfine : fineProg P = true) {f : FuncId} {fn : Func} {c : Code} (hf : P.funcs[f]? = some fn) (hb : fn.body = some c) : fineCode P c = true := by
  unfold fineProg at hfine
  try simp only [pinfo_eq, pund_eq, pfn_eq] at hfine
  rw [List.all_eq_true] at hfine
  have := hfine fn (by rw [← Array.getElem?_toList] at hf; exact List.mem_of_getElem? hf)
  simpa [fineFunc, hb] using this

theorem dBody_ok (hfine : fineProg P = true) (hC : COK P base C) (hD : DrawOK P base draw) {f : FuncId} {args args' : Array Value} {M : Mem} {r : DEnd} {M' : Mem}
    (h : dBody P C draw K f args M = some (r, M')) {m : Inj} {w : World} (ha : VsRel m args.toList args'.toList) (hR : Rel P base m M w) :
    Calls P f args' w fun e w' => ∃ m', EndRel m' r e ∧ Rel P base m' M' w' ∧ Fr base m m' M M' w w' := by
  unfold dBody at h
  try simp only [pfn_eq] at h
  split at h
  · rename_i fn hf
    split at h
    · rename_i c hb
      simp only [cond_eq_ite, Bool.and_eq_true, Nat.ble_eq] at h
      split at h
      · rename_i hle
        have hA := enter_rel ha hle.1 hle.2
        refine calls_of_wp_defers hf hb ?_
        cases hc : dCode P C draw K c (DAct.enter fn.ntmps args.toList) M with
        | none => rw [hc] at h; cases h
        | some p =>
          obtain ⟨x, a1, M1⟩ := p
          rw [hc] at h
          refine wp_mono (dCode_ok hC hD c (fine_of hfine hf hb) hc hA hR) fun e a2 w2 ⟨m2, hx, hA2, hR2, hF2⟩ => ?_
          cases x with
          | normal =>
            cases e <;> first | exact hx.elim | skip
            exact dLeaves_ok (u' := .returning) hC h hA2 hA2.defers trivial hR2 _ fun e w3 ⟨m3, p1, p2, p3⟩ => ⟨m3, p1, p2, hF2.trans p3⟩
          | ret =>
            cases e <;> first | exact hx.elim | skip
            exact dLeaves_ok (u' := .returning) hC h hA2 hA2.defers trivial hR2 _ fun e w3 ⟨m3, p1, p2, p3⟩ => ⟨m3, p1, p2, hF2.trans p3⟩
          | panic ch =>
            cases e <;> first | exact hx.elim | skip
            exact dLeaves_ok (u' := .panicking _) hC h hA2 hA2.defers hx hR2 _ fun e w3 ⟨m3, p1, p2, p3⟩ => ⟨m3, p1, p2, hF2.trans p3⟩
          | exit i => cases h
          | goto l => cases h
          | outgrown => cases h
      · cases h
    · cases h
  · cases h

/-! ## a deferred function, which may recover -/
def PostS (P : Program) (base : Nat) (m : Inj) (M : Mem) (w : World) (c₀ : Frame) (cs : List Frame) (x : Exit) (a : DAct) (u : FrameMode) (M1 : Mem) : Exit → Act → List Frame → World → Prop :=
  fun x' a' cs' w' => ∃ m' u', cs' = { c₀ with mode := u' } :: cs ∧ URel m' u u' ∧ XRel m' x x' ∧ ARel m' a a' ∧ Rel P base m' M1 w' ∧ Fr base m m' M M1 w w'

theorem wpS_mono {c : Code} {Q Q' : Exit → Act → List Frame → World → Prop} {a : Act} {cs : List Frame} {w : World} (h : c.wpS P Q a cs w)
    (hq : ∀ e a cs w, Q e a cs w → Q' e a cs w) : c.wpS P Q' a cs w :=
  fun b k hb hr => let ⟨e, a', cs', w', q, r⟩ := h b k hb hr; ⟨e, a', cs', w', hq _ _ _ _ q, r⟩

theorem recovers_ok {u u' : FrameMode} (h : URel m u u') (c₀ : Frame) (cs : List Frame) :
    (∃ v' u1', recoverD ({ c₀ with mode := u' } :: cs) = some (v', { c₀ with mode := u1' } :: cs) ∧ VRel m (recovers u).1 v' ∧ URel m (recovers u).2 u1') ∨
    (recoverD ({ c₀ with mode := u' } :: cs) = none ∧ VRel m (recovers u).1 .nilIface ∧ (recovers u).2 = u) := by
  cases u with
  | run => cases u' <;> first | exact h.elim | exact .inr ⟨rfl, .nilIface, rfl⟩
  | returning => cases u' <;> first | exact h.elim | exact .inr ⟨rfl, .nilIface, rfl⟩
  | panicking c =>
    cases u' <;> first | exact h.elim | skip
    rename_i c'
    have h' : ChRel m c c' := h
    match c, c', h' with
    | [], [], _ => exact .inr ⟨rfl, .nilIface, rfl⟩
    | d :: ds, d' :: ds', hc =>
      obtain ⟨h1, h2⟩ := hc
      obtain ⟨v, r, g⟩ := d
      obtain ⟨v', r', g'⟩ := d'
      obtain ⟨hv, hr, hg⟩ := h1
      simp only at hr hg hv
      subst hr; subst hg
      cases r' with
      | true => exact .inr ⟨rfl, .nilIface, rfl⟩
      | false =>
        cases g' with
        | true => exact .inr ⟨rfl, .nilIface, rfl⟩
        | false => exact .inl ⟨v', .panicking ({ v := v', recovered := true } :: ds'), rfl, hv, ⟨hv, rfl, rfl⟩, h2⟩

theorem dOpsS_ok (hC : COK P base C) (ops : Array Oper) (hfine : ops.toList.all (fineOper P) = true) (c₀ : Frame) (cs : List Frame) : ∀ (l : List Oper) (k : Nat), l = ops.toList.drop k →
    ∀ {a : DAct} {u : FrameMode} {M : Mem} {x : Exit} {a1 : DAct} {u1 : FrameMode} {M1 : Mem}, dOpsS P C ops l a u M = some (x, a1, u1, M1) →
    ∀ {m : Inj} {w : World} {a' : Act} {u' : FrameMode}, ARel m a a' → a.junk = [] → URel m u u' → Rel P base m M w →
    ∀ (Q : Exit → Act → List Frame → World → Prop), (∀ x' a1' cs' w1, PostS P base m M w c₀ cs x a1 u1 M1 x' a1' cs' w1 → Q x' a1' cs' w1) →
      wpOpsS P ops Q (List.range' k l.length) a' ({ c₀ with mode := u' } :: cs) w
  | [], k, _, a, u, M, x, a1, u1, M1, h, m, w, a', u', hA, hj, hU, hR, Q, hQ => by
    simp only [dOpsS, Option.some.injEq, Prod.mk.injEq] at h
    obtain ⟨rfl, rfl, rfl, rfl⟩ := h
    simp only [List.length_nil, List.range'_zero, wpOpsS]
    exact hQ _ _ _ _ ⟨m, u', rfl, hU, trivial, hA, hR, Fr.refl _ _ _ _⟩
  | o :: rest, k, hl, a, u, M, x, a1, u1, M1, h, m, w, a', u', hA, hj, hU, hR, Q, hQ => by
    have hk : ops[k]? = some o := by
      have := congrArg (·[0]?) hl
      simp only [List.getElem?_cons_zero, List.getElem?_drop, Nat.add_zero, Array.getElem?_toList] at this
      exact this.symm
    have hrest : rest = ops.toList.drop (k + 1) := by
      have := congrArg List.tail hl
      simpa [List.tail_drop] using this
    have hfo : fineOper P o = true := by
      rw [List.all_eq_true] at hfine
      exact hfine o (List.mem_of_mem_drop (hl ▸ List.mem_cons_self))
    have hρ : ∀ y ∈ o.op.operands, VRel m (a.eval y) (a'.eval y) := fun y hy => hA.eval hj hR (by
      unfold fineOper at hfo
      try simp only [pinfo_eq, pund_eq, pfn_eq] at hfo
      rw [List.all_eq_true] at hfo
      exact hfo y (by simpa using hy))
    simp only [List.length_cons, List.range'_succ, wpOpsS, hk, hA.wanted hj]
    have step : ∀ {b : DAct} {v : FrameMode} {M' : Mem} {m' : Inj} {w' : World} {b' : Act} {v' : FrameMode}, dOpsS P C ops rest b v M' = some (x, a1, u1, M1) → ARel m' b b' → b.junk = [] → URel m' v v' →
        Rel P base m' M' w' → Fr base m m' M M' w w' → wpOpsS P ops Q (List.range' (k + 1) rest.length) b' ({ c₀ with mode := v' } :: cs) w' := fun h1 h2 h2' h3 h4 h5 =>
      dOpsS_ok hC ops hfine c₀ cs rest (k + 1) hrest h1 h2 h2' h3 h4 Q fun x' a1' cs' w1 ⟨m2, u2, p0, p1, p2, p3, p4, p5⟩ => hQ _ _ _ _ ⟨m2, u2, p0, p1, p2, p3, p4, h5.trans p5⟩
    unfold dOpsS at h
    cases hw : wantedD ops a o with
    | false =>
      rw [hw] at h
      simp only [Bool.false_eq_true, if_false]
      exact step h (hA.put (undef_rel m) _) ((put_junk _ _ _).trans hj) hU hR (Fr.refl _ _ _ _)
    | true =>
      rw [hw] at h
      simp only [if_true]
      split at h
      case h_2 => rename_i he; cases he
      case h_1 =>
        cases ho : dOp P o a.eval M with
        | none => rw [ho] at h; cases h
        | some p =>
          obtain ⟨r, M'⟩ := p
          rw [ho] at h
          have hok := dOp_ok hR hρ ho
          cases r with
          | val v =>
            obtain ⟨m', w', n, hrun, hn, hR', hF⟩ := hok
            rw [hrun]
            cases n <;> first | exact hn.elim | skip
            exact step h ((hA.mono hF.le).put hn _) ((put_junk _ _ _).trans hj) (hU.mono hF.le) hR' hF
          | skip =>
            obtain ⟨m', w', n, hrun, hn, hR', hF⟩ := hok
            rw [hrun]
            cases n <;> first | exact hn.elim | skip
            exact step h ((hA.mono hF.le).put (undef_rel m') _) ((put_junk _ _ _).trans hj) (hU.mono hF.le) hR' hF
          | enter f args =>
            obtain ⟨m', w', n, hrun, hn, hR', hF⟩ := hok
            rw [hrun]
            cases n <;> first | exact hn.elim | skip
            rename_i f' args'
            obtain ⟨rfl, hargs⟩ := hn
            simp only at h
            cases hc : C.call f' args M' with
            | none => rw [hc] at h; cases h
            | some p =>
              obtain ⟨r, M''⟩ := p
              rw [hc] at h
              refine (hC.call hc hargs hR').mono fun e w'' ⟨m'', he, hR'', hF'⟩ => ?_
              cases r with
              | ret v =>
                cases e <;> first | exact he.elim | skip
                exact step h ((hA.mono (Inj.le_trans hF.le hF'.le)).put he _) ((put_junk _ _ _).trans hj) (hU.mono (Inj.le_trans hF.le hF'.le)) hR'' (hF.trans hF')
              | pan ch =>
                cases e <;> first | exact he.elim | skip
                simp only [Option.some.injEq, Prod.mk.injEq] at h
                obtain ⟨rfl, rfl, rfl, rfl⟩ := h
                exact hQ _ _ _ _ ⟨m'', u', rfl, hU.mono (Inj.le_trans hF.le hF'.le), he, hA.mono (Inj.le_trans hF.le hF'.le), hR'', hF.trans hF'⟩
          | comm v => cases h
          | defer d => cases h
          | recov =>
            obtain ⟨m', w', n, hrun, hn, hR', hF⟩ := hok
            rw [hrun]
            cases n <;> first | exact hn.elim | skip
            rcases recovers_ok (hU.mono hF.le) c₀ cs with ⟨v', u1', h1, h2, h3⟩ | ⟨h1, h2, h3⟩
            · simp only [h1]
              exact step h ((hA.mono hF.le).put h2 _) ((put_junk _ _ _).trans hj) h3 hR' hF
            · simp only [h1]
              rw [h3] at h
              exact step h ((hA.mono hF.le).put h2 _) ((put_junk _ _ _).trans hj) (hU.mono hF.le) hR' hF
          | panic v =>
            obtain ⟨m', w', v', hrun, hv, hR', hF⟩ := hok
            rw [hrun]
            simp only [Option.some.injEq, Prod.mk.injEq] at h
            obtain ⟨rfl, rfl, rfl, rfl⟩ := h
            exact hQ _ _ _ _ ⟨m', u', rfl, hU.mono hF.le, ⟨⟨hv, rfl, rfl⟩, trivial⟩, hA.mono hF.le, hR', hF⟩

theorem dCodeS_ok (hC : COK P base C) (hD : DrawOK P base draw) (c₀ : Frame) (cs : List Frame) : ∀ (c : Code), fineCode P c = true →
    ∀ {a : DAct} {u : FrameMode} {M : Mem} {x : Exit} {a1 : DAct} {u1 : FrameMode} {M1 : Mem}, dCodeS P C draw K c a u M = some (x, a1, u1, M1) →
    ∀ {m : Inj} {w : World} {a' : Act} {u' : FrameMode}, ARel m a a' → URel m u u' → Rel P base m M w →
      c.wpS P (PostS P base m M w c₀ cs x a1 u1 M1) a' ({ c₀ with mode := u' } :: cs) w := by
  intro c
  have other : ∀ {c : Code}, fineCode P c = true → ∀ {a : DAct} {u : FrameMode} {M : Mem} {x : Exit} {a1 : DAct} {u1 : FrameMode} {M1 : Mem},
      ((dCode P C draw K c a M).map fun r => (r.1, r.2.1, u, r.2.2)) = some (x, a1, u1, M1) →
      ∀ {m : Inj} {w : World} {a' : Act} {u' : FrameMode}, ARel m a a' → URel m u u' → Rel P base m M w →
        c.wpS P (PostS P base m M w c₀ cs x a1 u1 M1) a' ({ c₀ with mode := u' } :: cs) w := by
    intro c hf a u M x a1 u1 M1 h m w a' u' hA hU hR
    cases hc : dCode P C draw K c a M with
    | none => simp [hc] at h
    | some p =>
      obtain ⟨x0, a0, M0⟩ := p
      simp only [hc, Option.map_some, Option.some.injEq, Prod.mk.injEq] at h
      obtain ⟨rfl, rfl, rfl, rfl⟩ := h
      refine wpS_of_wp (wp_mono (dCode_ok hC hD c hf hc hA hR) fun e a2 w2 ⟨m2, p1, p2, p3, p4⟩ => ?_)
      exact ⟨m2, u', rfl, hU.mono p4.le, p1, p2, p3, p4⟩
  induction c with
  | region id ops drw =>
    intro hf a u M x a1 u1 M1 h m w a' u' hA hU hR
    cases drw with
    | false =>
      simp only [dCodeS, cond_eq_ite, List.isEmpty_iff] at h
      split at h
      case isFalse => cases h
      rename_i hj
      refine wpS_region ?_
      have := dOpsS_ok hC ops hf c₀ cs ops.toList 0 rfl h hA hj hU hR (PostS P base m M w c₀ cs x a1 u1 M1) fun _ _ _ _ hp => hp
      rw [Array.length_toList] at this
      rw [List.range_eq_range']
      exact this
    | true => exact other hf h hA hU hR
  | seq x y ihx ihy =>
    intro hf a u M e a1 u1 M1 h m w a' u' hA hU hR
    simp only [fineCode, Bool.and_eq_true] at hf
    refine wpS_seq ?_
    unfold dCodeS at h
    try simp only [pinfo_eq, pund_eq, pfn_eq] at h
    cases hx : dCodeS P C draw K x a u M with
    | none => rw [hx] at h; cases h
    | some p =>
      obtain ⟨x0, a0, u0, M0⟩ := p
      rw [hx] at h
      refine wpS_mono (ihx hf.1 hx hA hU hR) fun e2 a2 cs2 w2 ⟨m2, u2, p0, p1, hx2, hA2, hR2, hF2⟩ => ?_
      subst p0
      cases x0 with
      | normal =>
        cases e2 <;> first | exact hx2.elim | skip
        exact wpS_mono (ihy hf.2 h hA2 p1 hR2) fun _ _ _ _ ⟨m3, u3, q0, q1, q2, q3, q4, q5⟩ => ⟨m3, u3, q0, q1, q2, q3, q4, hF2.trans q5⟩
      | exit id =>
        simp only [Option.some.injEq, Prod.mk.injEq] at h
        obtain ⟨rfl, rfl, rfl, rfl⟩ := h
        cases e2 <;> first | exact hx2.elim | skip
        exact ⟨m2, u2, rfl, p1, hx2, hA2, hR2, hF2⟩
      | ret =>
        simp only [Option.some.injEq, Prod.mk.injEq] at h
        obtain ⟨rfl, rfl, rfl, rfl⟩ := h
        cases e2 <;> first | exact hx2.elim | skip
        exact ⟨m2, u2, rfl, p1, hx2, hA2, hR2, hF2⟩
      | panic ch =>
        simp only [Option.some.injEq, Prod.mk.injEq] at h
        obtain ⟨rfl, rfl, rfl, rfl⟩ := h
        cases e2 <;> first | exact hx2.elim | skip
        exact ⟨m2, u2, rfl, p1, hx2, hA2, hR2, hF2⟩
      | goto l => cases e2 <;> exact hx2.elim
      | outgrown => cases e2 <;> exact hx2.elim
  | cond c x y ihx ihy =>
    intro hf a u M e a1 u1 M1 h m w a' u' hA hU hR
    simp only [fineCode, Bool.and_eq_true] at hf
    unfold dCodeS at h
    try simp only [pinfo_eq, pund_eq, pfn_eq] at h
    simp only [cond_eq_ite, List.isEmpty_iff] at h
    split at h
    case isFalse => cases h
    rename_i hj
    have hc := hA.eval hj hR hf.1.1
    split at h
    · rename_i hv
      rw [hv] at hc
      generalize hcv : a'.eval c = cv at hc
      cases hc
      exact wpS_cond (t := true) hcv (ihx hf.1.2 h hA hU hR)
    · rename_i hv
      rw [hv] at hc
      generalize hcv : a'.eval c = cv at hc
      cases hc
      exact wpS_cond (t := false) hcv (ihy hf.2 h hA hU hR)
    · cases h
  | _ => intro hf a u M x a1 u1 M1 h m w a' u' hA hU hR; exact other hf h hA hU hR

theorem dBodyD_ok (hfine : fineProg P = true) (hC : COK P base C) (hD : DrawOK P base draw) {f : FuncId} {args args' : Array Value} {u u' : FrameMode} {M : Mem} {r : DEnd} {u1 : FrameMode} {M' : Mem}
    (h : dBodyD P C draw K f args u M = some (r, u1, M')) {m : Inj} {w : World} (ha : VsRel m args.toList args'.toList) (hU : URel m u u') (hR : Rel P base m M w) :
    CallsD P f args' u' w fun e u1' w' => ∃ m', EndRel m' r e ∧ URel m' u1 u1' ∧ Rel P base m' M' w' ∧ Fr base m m' M M' w w' := by
  unfold dBodyD at h
  try simp only [pfn_eq] at h
  split at h
  · rename_i fn hf
    split at h
    · rename_i c hb
      simp only [cond_eq_ite, Bool.and_eq_true, Nat.ble_eq] at h
      split at h
      · rename_i hle
        have hA := enter_rel ha hle.1 hle.2
        refine callsD_of_wpS hf hb fun c₀ cs hm => ?_
        have hc0 : c₀ = { c₀ with mode := u' } := by subst hm; rfl
        rw [hc0]
        cases hc : dCodeS P C draw K c (DAct.enter fn.ntmps args.toList) u M with
        | none => rw [hc] at h; cases h
        | some p =>
          obtain ⟨x, a1, u2, M1⟩ := p
          rw [hc] at h
          refine wpS_mono (dCodeS_ok hC hD c₀ cs c (fine_of hfine hf hb) hc hA hU hR) fun e a2 cs2 w2 ⟨m2, u3, p0, hU2, hx, hA2, hR2, hF2⟩ => ?_
          subst p0
          have fin : ∀ (he : e = .normal ∨ e = .ret), (match a1.defers with | [] => (dResults P fn a1 M1).map fun v => (DEnd.ret v, u2, M1) | _ => none) = some (r, u1, M') →
              a2.defers = [] ∧ ∃ v', (results fn a2.tmps).run P w2 = .ok v' w2 ∧ ∃ m', EndRel m' r (.returned v') ∧ URel m' u1 u3 ∧ Rel P base m' M' w2 ∧ Fr base m m' M M' w w2 := by
            intro _ h
            have hd := hA2.defers
            split at h
            · rename_i hnil
              rw [hnil] at hd
              cases hr : dResults P fn a1 M1 with
              | none => simp [hr] at h
              | some v =>
                simp only [hr, Option.map_some, Option.some.injEq, Prod.mk.injEq] at h
                obtain ⟨rfl, rfl, rfl⟩ := h
                obtain ⟨v', h1, h2⟩ := dResults_ok hR2 hA2 hr
                refine ⟨?_, v', h1, m2, h2, hU2, hR2, hF2⟩
                cases hd2 : a2.defers with
                | nil => rfl
                | cons _ _ => rw [hd2] at hd; exact hd.elim
            · cases h
          cases x with
          | normal =>
            cases e <;> first | exact hx.elim | skip
            obtain ⟨f1, v', f2, f3⟩ := fin (.inl rfl) h
            exact ⟨f1, u3, rfl, v', f2, f3⟩
          | ret =>
            cases e <;> first | exact hx.elim | skip
            obtain ⟨f1, v', f2, f3⟩ := fin (.inr rfl) h
            exact ⟨f1, u3, rfl, v', f2, f3⟩
          | panic ch =>
            cases e <;> first | exact hx.elim | skip
            have hd := hA2.defers
            simp only at h
            split at h
            · rename_i hnil
              rw [hnil] at hd
              simp only [Option.some.injEq, Prod.mk.injEq] at h
              obtain ⟨rfl, rfl, rfl⟩ := h
              refine ⟨?_, u3, rfl, m2, hx, hU2, hR2, hF2⟩
              cases hd2 : a2.defers with
              | nil => rfl
              | cons _ _ => rw [hd2] at hd; exact hd.elim
            · cases h
          | exit i => cases h
          | goto l => cases h
          | outgrown => cases h
      · cases h
    · cases h
  · cases h

/-! ## the knot -/
def knotD (P : Program) (draw : Callers → Array Oper → DAct → Mem → Option (Exit × DAct × Mem)) (K : Nat) : Nat → Callers
  | 0 => { call := fun _ _ _ => none, callD := fun _ _ _ _ => none }
  | k + 1 =>
    { call := fun f args M => dBody P (knotD P draw K k) (draw (knotD P draw K k)) K f args M
      callD := fun f args u M => dBodyD P (knotD P draw K k) (draw (knotD P draw K k)) K f args u M }

theorem knotD_ok (hfine : fineProg P = true) {draw : Callers → Array Oper → DAct → Mem → Option (Exit × DAct × Mem)} (hD : ∀ C, COK P base C → DrawOK P base (draw C)) :
    ∀ k, COK P base (knotD P draw K k)
  | 0 => ⟨fun h => by simp [knotD] at h, fun h => by simp [knotD] at h⟩
  | k + 1 =>
    have ih := knotD_ok hfine hD k
    ⟨fun h _ _ _ ha hR => dBody_ok hfine ih (hD _ ih) h ha hR, fun h _ _ _ _ ha hU hR => dBodyD_ok hfine ih (hD _ ih) h ha hU hR⟩
end
end
end Go.Ab
