/- Runs of the abstract machine: if it runs code, or a call, to an end, then so does the model, from every world that the relation ties to its memory. -/
import Derived.Test.YtjlbdefkkhfhaaaGreatDoorAbOp6
import Derived.LoopN
namespace Go.Ab
open Go
noncomputable section

/-! ## frames -/
def DRel (m : Inj) (d d' : Deferred) : Prop := ∃ fn c c', d.target = .fn fn c ∧ d'.target = .fn fn c' ∧ VsRel m c.toList c'.toList ∧ VsRel m d.args.toList d'.args.toList
def DsRel (m : Inj) : List Deferred → List Deferred → Prop
  | [], [] => True
  | d :: ds, d' :: ds' => DRel m d d' ∧ DsRel m ds ds'
  | _, _ => False
theorem DRel.mono {m m' : Inj} (hm : m.le m') {d d' : Deferred} (h : DRel m d d') : DRel m' d d' := by
  obtain ⟨fn, c, c', h1, h2, h3, h4⟩ := h
  exact ⟨fn, c, c', h1, h2, h3.mono hm, h4.mono hm⟩
theorem DsRel.cons {m : Inj} {d d' : Deferred} {l l' : List Deferred} (h : DRel m d d') (hs : DsRel m l l') : DsRel m (d :: l) (d' :: l') := ⟨h, hs⟩
theorem DsRel.mono {m m' : Inj} (hm : m.le m') : ∀ {l l' : List Deferred}, DsRel m l l' → DsRel m' l l'
  | [], [], _ => trivial
  | _ :: _, _ :: _, ⟨h1, h2⟩ => ⟨h1.mono hm, DsRel.mono hm h2⟩
  | [], _ :: _, h => h.elim
  | _ :: _, [], h => h.elim

structure ARel (m : Inj) (a : DAct) (a' : Act) : Prop where
  size : a'.tmps.size = a.n
  small : a.n ≤ 4294967296
  tmp : ∀ i : Nat, i ∉ a.junk → VRel m (a.tmp i) (a'.tmps.getD i undef)
  defers : DsRel m a.defers a'.defers

theorem ARel.mono {m m' : Inj} (hm : m.le m') {a : DAct} {a' : Act} (h : ARel m a a') : ARel m' a a' :=
  ⟨h.size, h.small, fun i hi => (h.tmp i hi).mono hm, h.defers.mono hm⟩

theorem undef_rel (m : Inj) : VRel m undef undef := .tuple .nil

theorem getD_set (t : Array Value) (d i : Nat) (v : Value) : (t.setIfInBounds d v).getD i undef = if d = i ∧ d < t.size then v else t.getD i undef := by
  rw [Array.getD_eq_getD_getElem?, Array.getD_eq_getD_getElem?, Array.getElem?_setIfInBounds]
  by_cases hi : d = i
  · subst hi
    by_cases hd : d < t.size
    · simp [hd]
    · simp [hd]
  · simp [hi]

theorem ARel.put {m : Inj} {a : DAct} {a' : Act} (h : ARel m a a') {v v' : Value} (hv : VRel m v v') (dst : Option Tmp) : ARel m (a.put dst v) (a'.put dst v') := by
  cases dst with
  | none => exact h
  | some d =>
    simp only [DAct.put_some, Act.put, cond_eq_ite, Nat.blt_eq]
    split
    · rename_i hd
      refine ⟨by simp [h.size], h.small, fun i hj => ?_, h.defers⟩
      have hall : ∀ x : Nat, x < a.n → x + 1 < 2 ^ depth := by
        intro x hx; have := h.small; unfold depth; omega
      have hdep := hall d hd
      rw [getD_set]
      by_cases hi : d = i
      · subst hi
        rw [if_pos ⟨rfl, by rw [h.size]; exact hd⟩]
        simp only [DAct.tmp, Tr.get_set_same _ _ _ _ hdep, Option.getD_some]
        exact hv
      · rw [if_neg (by simp [hi])]
        simp only [DAct.tmp, Tr.get_set_ne _ _ _ _ _ (Ne.symm hi)]
        exact h.tmp i hj
    · rename_i hd
      refine ⟨by simp [h.size], h.small, fun i hj => ?_, h.defers⟩
      rw [getD_set, if_neg (by rw [h.size]; simp [hd])]
      exact h.tmp i hj

theorem put_junk (a : DAct) (dst : Option Tmp) (v : Value) : (a.put dst v).junk = a.junk := by
  cases dst with
  | none => rfl
  | some d => simp only [DAct.put_some, cond_eq_ite]; split <;> rfl

theorem ARel.eval {P : Program} {base : Nat} {m : Inj} {M : Mem} {w : World} {a : DAct} {a' : Act} (h : ARel m a a') (hj : a.junk = []) (hR : Rel P base m M w) {x : Operand} (hx : fineOperand P x = true) :
    VRel m (a.eval x) (a'.eval x) := by
  cases x with
  | tmp i => exact h.tmp i (by simp [hj])
  | const v => exact flat_rel hx
  | global g =>
    have hg : g < P.globals.size := by simpa [fineOperand, Nat.blt_eq] using hx
    exact VRel.ptr (m := m) (b := g) (o := 0) (hR.low g hg)
  | func f => exact .func .nil .nil

theorem ARel.wanted {m : Inj} {a : DAct} {a' : Act} (h : ARel m a a') (hj : a.junk = []) (ops : Array Oper) (o : Oper) : Region.wanted o (yielded ops a'.tmps) = wantedD ops a o := by
  unfold Region.wanted wantedD
  cases o.guard with
  | none => rfl
  | some g =>
    obtain ⟨j, w⟩ := g
    simp only [yielded, yieldedD]
    cases hd : (ops[j]?).bind (·.dst) with
    | none => rfl
    | some d =>
      have ht := h.tmp d (by simp [hj])
      simp only [Option.bind_some]
      rw [Array.getD_eq_getD_getElem?] at ht
      generalize a.tmp d = v at ht
      cases hv : a'.tmps[d]? with
      | none =>
        rw [hv] at ht
        cases ht <;> first | rfl | (rename_i h1; cases h1)
      | some v' =>
        rw [hv] at ht
        simp only [Option.getD_some] at ht
        cases ht <;> first | rfl | (rename_i h1; cases v' <;> first | rfl | (cases h1; done))

/-! ## ends -/
def PRel (m : Inj) (e e' : PanicEntry) : Prop := VRel m e.v e'.v ∧ e'.recovered = e.recovered ∧ e'.goexit = e.goexit
def ChRel (m : Inj) : List PanicEntry → List PanicEntry → Prop
  | [], [] => True
  | d :: ds, d' :: ds' => PRel m d d' ∧ ChRel m ds ds'
  | _, _ => False
theorem PRel.mono {m m' : Inj} (hm : m.le m') {e e' : PanicEntry} (h : PRel m e e') : PRel m' e e' := ⟨h.1.mono hm, h.2⟩
theorem ChRel.mono {m m' : Inj} (hm : m.le m') : ∀ {l l' : List PanicEntry}, ChRel m l l' → ChRel m' l l'
  | [], [], _ => trivial
  | _ :: _, _ :: _, ⟨h1, h2⟩ => ⟨h1.mono hm, ChRel.mono hm h2⟩
  | [], _ :: _, h => h.elim
  | _ :: _, [], h => h.elim
theorem ChRel.append {m : Inj} : ∀ {l l' k k' : List PanicEntry}, ChRel m l l' → ChRel m k k' → ChRel m (l ++ k) (l' ++ k')
  | [], [], _, _, _, h => h
  | _ :: _, _ :: _, _, _, ⟨h1, h2⟩, h => ⟨h1, ChRel.append h2 h⟩
  | [], _ :: _, _, _, h, _ => h.elim
  | _ :: _, [], _, _, h, _ => h.elim

def URel (m : Inj) : FrameMode → FrameMode → Prop
  | .run, .run => True
  | .returning, .returning => True
  | .panicking c, .panicking c' => ChRel m c c'
  | _, _ => False
theorem URel.mono {m m' : Inj} (hm : m.le m') {u u' : FrameMode} (h : URel m u u') : URel m' u u' := by
  cases u <;> cases u' <;> first | exact h.elim | trivial | exact ChRel.mono hm h

def XRel (m : Inj) : Exit → Exit → Prop
  | .normal, .normal => True
  | .exit i, .exit j => j = i
  | .ret, .ret => True
  | .panic c, .panic c' => ChRel m c c'
  | _, _ => False

def EndRel (m : Inj) : DEnd → Ending → Prop
  | .ret v, .returned v' => VRel m v v'
  | .pan c, .panicked c' => ChRel m c c'
  | _, _ => False

def Post (P : Program) (base : Nat) (m : Inj) (M : Mem) (w : World) (x : Exit) (a : DAct) (M1 : Mem) : Exit → Act → World → Prop :=
  fun x' a' w' => ∃ m', XRel m' x x' ∧ ARel m' a a' ∧ Rel P base m' M1 w' ∧ Fr base m m' M M1 w w'

structure COK (P : Program) (base : Nat) (C : Callers) : Prop where
  call : ∀ {f args M r M'}, C.call f args M = some (r, M') → ∀ {m w args'}, VsRel m args.toList args'.toList → Rel P base m M w →
    Calls P f args' w fun e w' => ∃ m', EndRel m' r e ∧ Rel P base m' M' w' ∧ Fr base m m' M M' w w'
  callD : ∀ {f args u M r u1 M'}, C.callD f args u M = some (r, u1, M') → ∀ {m w args' u'}, VsRel m args.toList args'.toList → URel m u u' → Rel P base m M w →
    CallsD P f args' u' w fun e u1' w' => ∃ m', EndRel m' r e ∧ URel m' u1 u1' ∧ Rel P base m' M' w' ∧ Fr base m m' M M' w w'

/-! ### operations of a region, a communication of a lone goroutine among them -/
def OpsTo (P : Program) (ops : Array Oper) (Q : Exit → Act → World → Prop) (l : List Nat) (a : Act) (w : World) : Prop :=
  ∀ (b : Frame) (k : List Item) (cs : List Frame), ∃ e a' w', Q e a' w' ∧ Arrives P (lone (b.at a (.inRegion ops l :: k)) cs w) b k cs e a' w'

theorem OpsTo.nil {P : Program} {ops : Array Oper} {Q : Exit → Act → World → Prop} {a : Act} {w : World} (h : Q .normal a w) : OpsTo P ops Q [] a w :=
  fun _ _ _ => ⟨.normal, a, w, h, .one step_region_end⟩

theorem OpsTo.skip {P : Program} {ops : Array Oper} {Q : Exit → Act → World → Prop} {a : Act} {w : World} {i : Nat} {rest : List Nat} {o : Oper} (ho : ops[i]? = some o) (hw : Region.wanted o (yielded ops a.tmps) = false)
    (h : OpsTo P ops Q rest (a.put o.dst undef) w) : OpsTo P ops Q (i :: rest) a w := by
  intro b k cs
  obtain ⟨e, a', w', hq, harr⟩ := h b k cs
  have hs := step_op_skip (P := P) (b := b) (a := a) (k := k) (cs := cs) (w := w) (ops := ops) (i := i) (rest := rest) (by simp [ho]; simpa using hw)
  simp only [ho, Option.bind_some] at hs
  exact ⟨e, a', w', hq, .of_steps (.one hs) harr⟩

theorem OpsTo.comm {P : Program} {ops : Array Oper} {Q : Exit → Act → World → Prop} {a : Act} {w : World} {i : Nat} {rest : List Nat} {o : Oper} (ho : ops[i]? = some o) (hw : Region.wanted o (yielded ops a.tmps) = true)
    {cases : Array CommCase} {blocking : Bool} {shape : CommShape} {v : Value} (hrun : (execOp a.eval o).run P w = .ok (.comm cases blocking shape) w) (hc : CommStep P w cases blocking shape v)
    (h : OpsTo P ops Q rest (a.put o.dst v) w) : OpsTo P ops Q (i :: rest) a w := by
  intro b k cs
  obtain ⟨e, a', w', hq, harr⟩ := h b k cs
  have hg := stepG_op (P := P) (b := b) (k := k) (cs := cs) (w := w) (rest := rest) ho hw
  have hst : ∃ es, stepG P true (Conc.G (b.at a (.inRegion ops (i :: rest) :: k)) cs) w = .comm (Conc.G (b.at a (.inRegion ops (i :: rest) :: k)) cs) cases blocking shape w es := by
    unfold Conc.G
    rw [hg]
    simp only [stepG.apply, Sem.runT_eq, hrun]
    exact ⟨_, rfl⟩
  obtain ⟨es, hst⟩ := hst
  have hs := hc _ _ _ hst
  rw [Frame.finish_at, ho] at hs
  exact ⟨e, a', w', hq, .of_steps (.one hs) harr⟩

theorem OpsTo.op {P : Program} {ops : Array Oper} {Q : Exit → Act → World → Prop} {a : Act} {w : World} {i : Nat} {rest : List Nat} {o : Oper} (ho : ops[i]? = some o) (hw : Region.wanted o (yielded ops a.tmps) = true)
    (h : o.wp P a w (OpsTo P ops Q rest) Q) : OpsTo P ops Q (i :: rest) a w := by
  intro b k cs
  have hg := stepG_op (P := P) (b := b) (k := k) (cs := cs) (w := w) (rest := rest) ho hw
  have hfin : ∀ v, (b.at a (.inRegion ops (i :: rest) :: k)).finish v = b.at (a.put o.dst v) (.inRegion ops rest :: k) := by
    intro v; rw [Frame.finish_at, ho]; rfl
  have go : ∀ {a1 : Act} {w1 w2 : World}, Steps P (lone (b.at a (.inRegion ops (i :: rest) :: k)) cs w) (lone (b.at a1 (.inRegion ops rest :: k)) cs w1) → OpsTo P ops Q rest a1 w1 →
      ∃ e a' w', Q e a' w' ∧ Arrives P (lone (b.at a (.inRegion ops (i :: rest) :: k)) cs w) b k cs e a' w' := fun hs hn =>
    let ⟨e, a', w', hq, harr⟩ := hn b k cs
    ⟨e, a', w', hq, .of_steps hs harr⟩
  unfold Oper.wp at h
  cases hr : (execOp a.eval o).run P w with
  | ok n w' =>
    rw [hr] at h
    cases n with
    | value v => exact go (w2 := w) (.one (step_lone_go (by rw [hg, ← hfin]; simp [stepG.apply, hr]))) h
    | skip => exact go (w2 := w) (.one (step_lone_go (by rw [hg, ← hfin]; simp [stepG.apply, hr]))) h
    | defer d =>
      have hd : ({ b.at a (.inRegion ops (i :: rest) :: k) with defers := d :: a.defers } : Frame).finish undef = b.at ({ a with defers := d :: a.defers }.put o.dst undef) (.inRegion ops rest :: k) := by
        have := Frame.finish_at b { a with defers := d :: a.defers } ops i rest k undef
        rw [ho] at this; exact this
      refine go (w2 := w) (.one (step_lone_go ?_)) h
      rw [hg]; simp only [stepG.apply, Sem.runT_eq, hr, GStep.bare_after]
      exact congrArg (fun fr => GStep.go { frame := fr, callers := cs, status := .running, dying := none } w') hd
    | enter f args =>
      obtain ⟨e, w'', fr, hR, hsteps, _, hleave⟩ := h (b.at a (.inRegion ops (i :: rest) :: k) :: cs)
      have henter : step P (lone (b.at a (.inRegion ops (i :: rest) :: k)) cs w) = .next (lone (Frame.enter P f args .normal) (b.at a (.inRegion ops (i :: rest) :: k) :: cs) w') :=
        step_lone_go (by rw [hg]; simp [stepG.apply, hr, Frame.at])
      cases e with
      | returned v => exact go (w2 := w) (.head henter (Steps.trans hsteps (.one (by rw [← hfin]; exact step_leave_returned hleave)))) hR
      | panicked chain =>
        refine ⟨.panic chain, a, w'', hR, .inRegion ops (i :: rest) :: k, .head henter (Steps.trans hsteps (.one ?_))⟩
        rw [← Frame.raise_at]; exact step_leave_panicked hleave
      | outgrown =>
        obtain ⟨a₀, w₀, hq⟩ := hR
        exact ⟨.outgrown, a₀, w₀, hq, .inr (Outgrown.of_steps (.one henter) hsteps)⟩
    | row row args =>
      obtain ⟨v, w'', hR, hsteps⟩ := h (b.at a (.inRegion ops (i :: rest) :: k)) cs
      have henter : step P (lone (b.at a (.inRegion ops (i :: rest) :: k)) cs w) = .next (lone (Frame.ofRow P row args .normal) (b.at a (.inRegion ops (i :: rest) :: k) :: cs) w') :=
        step_lone_go (by rw [hg]; simp [stepG.apply, hr, Frame.at])
      exact go (w2 := w) (.head henter (by rw [← hfin]; exact hsteps)) hR
    | _ => exact h.elim
  | halt x w' =>
    rw [hr] at h
    cases x with
    | panic v =>
      refine ⟨_, a, w', h, .inRegion ops (i :: rest) :: k, .one (step_lone_go ?_)⟩
      rw [hg, ← Frame.raise_at]; simp [stepG.apply, hr]
    | _ => exact h.elim

theorem wp_region_to {P : Program} {id : Nat} {ops : Array Oper} {Q : Exit → Act → World → Prop} {a : Act} {w : World} (h : OpsTo P ops Q (List.range ops.size) a w) : (Code.region id ops false).wp P Q a w :=
  fun b k cs => let ⟨e, a', w', q, r⟩ := h b k cs; ⟨e, a', w', q, .of_steps (.one step_region) r⟩

section
variable {P : Program} {base : Nat} {C : Callers}

theorem dOps_ok (hC : COK P base C) (ops : Array Oper) (hfine : ops.toList.all (fineOper P) = true) : ∀ (l : List Oper) (k : Nat), l = ops.toList.drop k →
    ∀ {a : DAct} {M : Mem} {x : Exit} {a1 : DAct} {M1 : Mem}, dOps P C ops l a M = some (x, a1, M1) →
    ∀ {m : Inj} {w : World} {a' : Act}, ARel m a a' → a.junk = [] → Rel P base m M w →
    ∀ (Q : Exit → Act → World → Prop), (∀ x' a1' w1, Post P base m M w x a1 M1 x' a1' w1 → Q x' a1' w1) → OpsTo P ops Q (List.range' k l.length) a' w
  | [], k, _, a, M, x, a1, M1, h, m, w, a', hA, hj, hR, Q, hQ => by
    simp only [dOps_nil, Option.some.injEq, Prod.mk.injEq] at h
    obtain ⟨rfl, rfl, rfl⟩ := h
    simp only [List.length_nil, List.range'_zero]
    exact .nil (hQ _ _ _ ⟨m, trivial, hA, hR, Fr.refl _ _ _ _⟩)
  | o :: rest, k, hl, a, M, x, a1, M1, h, m, w, a', hA, hj, hR, Q, hQ => by
    have hk : ops[k]? = some o := by
      have := congrArg (·[0]?) hl
      simp only [List.getElem?_cons_zero, List.getElem?_drop, Nat.add_zero, Array.getElem?_toList] at this
      exact this.symm
    have hrest : rest = ops.toList.drop (k + 1) := by
      have := congrArg List.tail hl
      simpa [List.tail_drop] using this
    have hfo : fineOper P o = true := by
      rw [List.all_eq_true] at hfine
      exact hfine o (List.mem_of_mem_drop (hl ▸ List.mem_cons_self))
    have hρ : ∀ y ∈ o.op.operands, VRel m (a.eval y) (a'.eval y) := fun y hy => hA.eval hj hR (by
      unfold fineOper at hfo
      try simp only [pinfo_eq, pund_eq, pfn_eq] at hfo
      rw [List.all_eq_true] at hfo
      exact hfo y (by simpa using hy))
    simp only [List.length_cons, List.range'_succ]
    have hwant := hA.wanted hj ops o
    have step : ∀ {b : DAct} {M' : Mem} {m' : Inj} {w' : World} {b' : Act}, dOps P C ops rest b M' = some (x, a1, M1) → ARel m' b b' → b.junk = [] → Rel P base m' M' w' → Fr base m m' M M' w w' →
        OpsTo P ops Q (List.range' (k + 1) rest.length) b' w' := fun h1 h2 h2' h3 h4 =>
      dOps_ok hC ops hfine rest (k + 1) hrest h1 h2 h2' h3 Q fun x' a1' w1 ⟨m2, p1, p2, p3, p4⟩ => hQ _ _ _ ⟨m2, p1, p2, p3, h4.trans p4⟩
    rw [dOps_cons] at h
    cases hw : wantedD ops a o with
    | false =>
      rw [hw] at h
      refine .skip hk (hwant.trans hw) ?_
      exact step h (hA.put (undef_rel m) _) ((put_junk _ _ _).trans hj) hR (Fr.refl _ _ _ _)
    | true =>
      rw [hw] at h
      split at h
      case h_2 => rename_i he; cases he
      case h_1 =>
        cases ho : dOp P o a.eval M with
        | none => rw [ho] at h; cases h
        | some p =>
          obtain ⟨r, M'⟩ := p
          rw [ho] at h
          have hok := dOp_ok hR hρ ho
          cases r with
          | comm v =>
            obtain ⟨cases, blocking, shape, v', hrun, hv, hst, rfl⟩ := hok
            exact .comm hk (hwant.trans hw) hrun hst (step h (hA.put hv _) ((put_junk _ _ _).trans hj) hR (Fr.refl _ _ _ _))
          | val v =>
            obtain ⟨m', w', n, hrun, hn, hR', hF⟩ := hok
            refine .op hk (hwant.trans hw) ?_
            unfold Oper.wp
            rw [hrun]
            cases n <;> first | exact hn.elim | skip
            exact step h ((hA.mono hF.le).put hn _) ((put_junk _ _ _).trans hj) hR' hF
          | skip =>
            obtain ⟨m', w', n, hrun, hn, hR', hF⟩ := hok
            refine .op hk (hwant.trans hw) ?_
            unfold Oper.wp
            rw [hrun]
            cases n <;> first | exact hn.elim | skip
            exact step h ((hA.mono hF.le).put (undef_rel m') _) ((put_junk _ _ _).trans hj) hR' hF
          | enter f args =>
            obtain ⟨m', w', n, hrun, hn, hR', hF⟩ := hok
            refine .op hk (hwant.trans hw) ?_
            unfold Oper.wp
            rw [hrun]
            cases n <;> first | exact hn.elim | skip
            rename_i f' args'
            obtain ⟨rfl, hargs⟩ := hn
            simp only at h
            cases hc : C.call f' args M' with
            | none => rw [hc] at h; cases h
            | some p =>
              obtain ⟨r, M''⟩ := p
              rw [hc] at h
              refine (hC.call hc hargs hR').mono fun e w'' ⟨m'', he, hR'', hF'⟩ => ?_
              cases r with
              | ret v =>
                cases e <;> first | exact he.elim | skip
                exact step h ((hA.mono (Inj.le_trans hF.le hF'.le)).put he _) ((put_junk _ _ _).trans hj) hR'' (hF.trans hF')
              | pan ch =>
                cases e <;> first | exact he.elim | skip
                simp only [Option.some.injEq, Prod.mk.injEq] at h
                obtain ⟨rfl, rfl, rfl⟩ := h
                exact hQ _ _ _ ⟨m'', he, hA.mono (Inj.le_trans hF.le hF'.le), hR'', hF.trans hF'⟩
          | defer d =>
            obtain ⟨m', w', n, hrun, hn, hR', hF⟩ := hok
            refine .op hk (hwant.trans hw) ?_
            unfold Oper.wp
            rw [hrun]
            cases n <;> first | exact hn.elim | skip
            have hA' := hA.mono hF.le
            rename_i d'
            exact step h (ARel.put (a := { a with defers := d :: a.defers }) (a' := { a' with defers := d' :: a'.defers }) ⟨hA'.size, hA'.small, hA'.tmp, DsRel.cons hn hA'.defers⟩ (undef_rel m') _) ((put_junk _ _ _).trans hj) hR' hF
          | recov => cases h
          | panic v =>
            obtain ⟨m', w', v', hrun, hv, hR', hF⟩ := hok
            refine .op hk (hwant.trans hw) ?_
            unfold Oper.wp
            rw [hrun]
            simp only [Option.some.injEq, Prod.mk.injEq] at h
            obtain ⟨rfl, rfl, rfl⟩ := h
            exact hQ _ _ _ ⟨m', ⟨⟨hv, rfl, rfl⟩, trivial⟩, hA.mono hF.le, hR', hF⟩

def DrawOK (P : Program) (base : Nat) (draw : Array Oper → DAct → Mem → Option (Exit × DAct × Mem)) : Prop :=
  ∀ {id : Nat} {ops : Array Oper}, ops.toList.all (fineOper P) = true → ∀ {a : DAct} {M : Mem} {x : Exit} {a1 : DAct} {M1 : Mem}, draw ops a M = some (x, a1, M1) →
    ∀ {m : Inj} {w : World} {a' : Act}, ARel m a a' → a.junk = [] → Rel P base m M w → (Code.region id ops true).wp P (Post P base m M w x a1 M1) a' w

variable {draw : Array Oper → DAct → Mem → Option (Exit × DAct × Mem)} {K : Nat}

theorem loop_ok {c : Code} {body : DAct → Mem → Option (Exit × DAct × Mem)}
    (hb : ∀ {a : DAct} {M : Mem} {x : Exit} {a1 : DAct} {M1 : Mem}, body a M = some (x, a1, M1) → ∀ {m : Inj} {w : World} {a' : Act}, ARel m a a' → Rel P base m M w →
      c.wp P (Post P base m M w x a1 M1) a' w) : ∀ (k : Nat) {a : DAct} {M : Mem} {x : Exit} {a1 : DAct} {M1 : Mem}, loopN body k a M = some (x, a1, M1) →
    ∀ {m : Inj} {w : World} {a' : Act}, ARel m a a' → Rel P base m M w → ∀ (Q : Exit → Act → World → Prop), (∀ x' a1' w1, Post P base m M w x a1 M1 x' a1' w1 → Q x' a1' w1) →
      Code.rounds P c Q k a' w
  | 0, a, M, x, a1, M1, h, _, _, _, _, _, _, _ => by simp [loopN] at h
  | k + 1, a, M, x, a1, M1, h, m, w, a', hA, hR, Q, hQ => by
    rw [rounds_succ]
    unfold loopN at h
    try simp only [pinfo_eq, pund_eq, pfn_eq] at h
    cases hbody : body a M with
    | none => rw [hbody] at h; cases h
    | some p =>
      obtain ⟨x0, a0, M0⟩ := p
      rw [hbody] at h
      refine wp_mono (hb hbody hA hR) fun e a2 w2 hp => ?_
      obtain ⟨m2, hx, hA2, hR2, hF2⟩ := hp
      cases x0 with
      | normal =>
        cases e <;> first | exact hx.elim | skip
        exact loop_ok hb k h hA2 hR2 Q fun x' a1' w1 ⟨m3, p1, p2, p3, p4⟩ => hQ _ _ _ ⟨m3, p1, p2, p3, hF2.trans p4⟩
      | exit id =>
        simp only [Option.some.injEq, Prod.mk.injEq] at h
        obtain ⟨rfl, rfl, rfl⟩ := h
        cases e <;> first | exact hx.elim | skip
        exact hQ _ _ _ ⟨m2, hx, hA2, hR2, hF2⟩
      | ret =>
        simp only [Option.some.injEq, Prod.mk.injEq] at h
        obtain ⟨rfl, rfl, rfl⟩ := h
        cases e <;> first | exact hx.elim | skip
        exact hQ _ _ _ ⟨m2, hx, hA2, hR2, hF2⟩
      | panic ch =>
        simp only [Option.some.injEq, Prod.mk.injEq] at h
        obtain ⟨rfl, rfl, rfl⟩ := h
        cases e <;> first | exact hx.elim | skip
        exact hQ _ _ _ ⟨m2, hx, hA2, hR2, hF2⟩
      | goto l => cases e <;> exact hx.elim
      | outgrown => cases e <;> exact hx.elim

theorem dCode_ok (hC : COK P base C) (hD : DrawOK P base draw) : ∀ (c : Code), fineCode P c = true → ∀ {a : DAct} {M : Mem} {x : Exit} {a1 : DAct} {M1 : Mem},
    dCode P C draw K c a M = some (x, a1, M1) → ∀ {m : Inj} {w : World} {a' : Act}, ARel m a a' → Rel P base m M w → c.wp P (Post P base m M w x a1 M1) a' w := by
  intro c
  induction c with
  | skip =>
    intro _ a M x a1 M1 h m w a' hA hR
    simp only [dCode, Option.some.injEq, Prod.mk.injEq] at h
    obtain ⟨rfl, rfl, rfl⟩ := h
    exact wp_skip ⟨m, trivial, hA, hR, Fr.refl _ _ _ _⟩
  | label l =>
    intro _ a M x a1 M1 h m w a' hA hR
    simp only [dCode, Option.some.injEq, Prod.mk.injEq] at h
    obtain ⟨rfl, rfl, rfl⟩ := h
    exact wp_label ⟨m, trivial, hA, hR, Fr.refl _ _ _ _⟩
  | region id ops drw =>
    intro hf a M x a1 M1 h m w a' hA hR
    cases drw with
    | false =>
      simp only [dCode, cond_eq_ite, List.isEmpty_iff] at h
      split at h
      case isFalse => cases h
      rename_i hj
      refine wp_region_to ?_
      have := dOps_ok hC ops hf ops.toList 0 rfl h hA hj hR (Post P base m M w x a1 M1) fun _ _ _ hp => hp
      rw [Array.length_toList] at this
      rw [List.range_eq_range']
      exact this
    | true =>
      simp only [dCode, cond_eq_ite, List.isEmpty_iff] at h
      split at h
      case isFalse => cases h
      rename_i hj
      exact hD hf h hA hj hR
  | seq x y ihx ihy =>
    intro hf a M e a1 M1 h m w a' hA hR
    simp only [fineCode, Bool.and_eq_true] at hf
    refine wp_seq ?_
    unfold dCode at h
    try simp only [pinfo_eq, pund_eq, pfn_eq] at h
    cases hx : dCode P C draw K x a M with
    | none => rw [hx] at h; cases h
    | some p =>
      obtain ⟨x0, a0, M0⟩ := p
      rw [hx] at h
      refine wp_mono (ihx hf.1 hx hA hR) fun e2 a2 w2 ⟨m2, hx2, hA2, hR2, hF2⟩ => ?_
      cases x0 with
      | normal =>
        cases e2 <;> first | exact hx2.elim | skip
        exact wp_mono (ihy hf.2 h hA2 hR2) fun _ _ _ ⟨m3, p1, p2, p3, p4⟩ => ⟨m3, p1, p2, p3, hF2.trans p4⟩
      | exit id =>
        simp only [Option.some.injEq, Prod.mk.injEq] at h
        obtain ⟨rfl, rfl, rfl⟩ := h
        cases e2 <;> first | exact hx2.elim | skip
        exact ⟨m2, hx2, hA2, hR2, hF2⟩
      | ret =>
        simp only [Option.some.injEq, Prod.mk.injEq] at h
        obtain ⟨rfl, rfl, rfl⟩ := h
        cases e2 <;> first | exact hx2.elim | skip
        exact ⟨m2, hx2, hA2, hR2, hF2⟩
      | panic ch =>
        simp only [Option.some.injEq, Prod.mk.injEq] at h
        obtain ⟨rfl, rfl, rfl⟩ := h
        cases e2 <;> first | exact hx2.elim | skip
        exact ⟨m2, hx2, hA2, hR2, hF2⟩
      | goto l => cases e2 <;> exact hx2.elim
      | outgrown => cases e2 <;> exact hx2.elim
  | cond c x y ihx ihy =>
    intro hf a M e a1 M1 h m w a' hA hR
    simp only [fineCode, Bool.and_eq_true] at hf
    unfold dCode at h
    try simp only [pinfo_eq, pund_eq, pfn_eq] at h
    simp only [cond_eq_ite, List.isEmpty_iff] at h
    split at h
    case isFalse => cases h
    rename_i hj
    have hc := hA.eval hj hR hf.1.1
    split at h
    · rename_i hv
      rw [hv] at hc
      generalize hcv : a'.eval c = cv at hc
      cases hc
      exact wp_cond_true hcv (ihx hf.1.2 h hA hR)
    · rename_i hv
      rw [hv] at hc
      generalize hcv : a'.eval c = cv at hc
      cases hc
      exact wp_cond_false hcv (ihy hf.2 h hA hR)
    · cases h
  | block id c ih =>
    intro hf a M e a1 M1 h m w a' hA hR
    refine wp_block ?_
    unfold dCode at h
    try simp only [pinfo_eq, pund_eq, pfn_eq] at h
    cases hx : dCode P C draw K c a M with
    | none => rw [hx] at h; cases h
    | some p =>
      obtain ⟨x0, a0, M0⟩ := p
      rw [hx] at h
      refine wp_mono (ih hf hx hA hR) fun e2 a2 w2 ⟨m2, hx2, hA2, hR2, hF2⟩ => ?_
      cases x0 with
      | normal =>
        simp only [Option.some.injEq, Prod.mk.injEq] at h
        obtain ⟨rfl, rfl, rfl⟩ := h
        cases e2 <;> first | exact hx2.elim | skip
        exact ⟨m2, hx2, hA2, hR2, hF2⟩
      | exit i =>
        cases e2 <;> first | exact hx2.elim | skip
        rename_i j _
        have hji : j = i := hx2
        subst hji
        simp only [cond_eq_ite, Nat.beq_eq] at h
        simp only [Exit.inBlock]
        split at h
        · rename_i hid
          rw [if_pos hid]
          simp only [Option.some.injEq, Prod.mk.injEq] at h
          obtain ⟨rfl, rfl, rfl⟩ := h
          exact ⟨m2, trivial, hA2, hR2, hF2⟩
        · rename_i hid
          rw [if_neg hid]
          simp only [Option.some.injEq, Prod.mk.injEq] at h
          obtain ⟨rfl, rfl, rfl⟩ := h
          exact ⟨m2, rfl, hA2, hR2, hF2⟩
      | ret =>
        simp only [Option.some.injEq, Prod.mk.injEq] at h
        obtain ⟨rfl, rfl, rfl⟩ := h
        cases e2 <;> first | exact hx2.elim | skip
        exact ⟨m2, hx2, hA2, hR2, hF2⟩
      | panic ch =>
        simp only [Option.some.injEq, Prod.mk.injEq] at h
        obtain ⟨rfl, rfl, rfl⟩ := h
        cases e2 <;> first | exact hx2.elim | skip
        exact ⟨m2, hx2, hA2, hR2, hF2⟩
      | goto l => cases e2 <;> exact hx2.elim
      | outgrown => cases e2 <;> exact hx2.elim
  | loop c ih =>
    intro hf a M e a1 M1 h m w a' hA hR
    refine wp_loop_rounds K ?_
    unfold dCode at h
    try simp only [pinfo_eq, pund_eq, pfn_eq] at h
    exact loop_ok (fun h1 _ _ _ h2 h3 => ih hf h1 h2 h3) K h hA hR _ fun _ _ _ hp => hp
  | exit id =>
    intro _ a M x a1 M1 h m w a' hA hR
    simp only [dCode, Option.some.injEq, Prod.mk.injEq] at h
    obtain ⟨rfl, rfl, rfl⟩ := h
    exact wp_exit ⟨m, rfl, hA, hR, Fr.refl _ _ _ _⟩
  | ret =>
    intro _ a M x a1 M1 h m w a' hA hR
    simp only [dCode, Option.some.injEq, Prod.mk.injEq] at h
    obtain ⟨rfl, rfl, rfl⟩ := h
    exact wp_ret ⟨m, trivial, hA, hR, Fr.refl _ _ _ _⟩
  | rangeFunc f ps x y _ _ => intro _ a M x a1 M1 h; simp [dCode] at h
  | scope c _ => intro _ a M x a1 M1 h; simp [dCode] at h
  | goto l => intro _ a M x a1 M1 h; simp [dCode] at h
  | refuse s => intro _ a M x a1 M1 h; simp [dCode] at h
end
end
end Go.Ab
