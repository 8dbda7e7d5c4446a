/- By hand and by the abstract machine, by turns: pieces of a region; single operations; words and slices that came in. -/
import Derived.Test.YtjlbdefkkhfhaaaGreatDoorAbRow
namespace Go.Ab
open Go
noncomputable section

section
variable {P : Program} {base : Nat} {C : Callers}

theorem dOps_seg (hC : COK P base C) (ops : Array Oper) (hfine : ops.toList.all (fineOper P) = true) (r : Nat) : ∀ (l : List Oper) (k : Nat), (∃ t, ops.toList.drop k = l ++ t) →
    ∀ {a : DAct} {M : Mem} {x : Exit} {a1 : DAct} {M1 : Mem}, dOps P C ops l a M = some (x, a1, M1) →
    ∀ {m : Inj} {w : World} {a' : Act}, ARel m a a' → a.junk = [] → Rel P base m M w →
    ∀ (Q : Exit → Act → World → Prop), (∀ x' a1' w1, Post P base m M w x a1 M1 x' a1' w1 → Exit.then (OpsTo P ops Q (List.range' (k + l.length) r)) Q x' a1' w1) → OpsTo P ops Q (List.range' k (l.length + r)) a' w
  | [], k, _, a, M, x, a1, M1, h, m, w, a', hA, hj, hR, Q, hQ => by
    simp only [dOps_nil, Option.some.injEq, Prod.mk.injEq] at h
    obtain ⟨rfl, rfl, rfl⟩ := h
    have h0 := hQ .normal a' w ⟨m, trivial, hA, hR, Fr.refl _ _ _ _⟩
    simp only [List.length_nil, Nat.add_zero, Nat.zero_add] at h0 ⊢
    exact h0
  | o :: rest, k, hl, a, M, x, a1, M1, h, m, w, a', hA, hj, hR, Q, hQ => by
    obtain ⟨tl, hl⟩ := hl
    have hk : ops[k]? = some o := by
      have := congrArg (·[0]?) hl
      simp only [List.cons_append, List.getElem?_cons_zero, List.getElem?_drop, Nat.add_zero, Array.getElem?_toList] at this
      exact this
    have hrest : ∃ t, ops.toList.drop (k + 1) = rest ++ t := by
      have := congrArg List.tail hl
      exact ⟨tl, by simpa [List.tail_drop] using this⟩
    have hfo : fineOper P o = true := by
      rw [List.all_eq_true] at hfine
      exact hfine o (List.mem_of_mem_drop (i := k) (by rw [hl]; simp))
    have hρ : ∀ y ∈ o.op.operands, VRel m (a.eval y) (a'.eval y) := fun y hy => hA.eval hj hR (by
      unfold fineOper at hfo
      try simp only [pinfo_eq, pund_eq, pfn_eq] at hfo
      rw [List.all_eq_true] at hfo
      exact hfo y (by simpa using hy))
    rw [show (o :: rest).length + r = (rest.length + r) + 1 by simp only [List.length_cons]; omega, List.range'_succ]
    have hwant := hA.wanted hj ops o
    have step : ∀ {b : DAct} {M' : Mem} {m' : Inj} {w' : World} {b' : Act}, dOps P C ops rest b M' = some (x, a1, M1) → ARel m' b b' → b.junk = [] → Rel P base m' M' w' → Fr base m m' M M' w w' →
        OpsTo P ops Q (List.range' (k + 1) (rest.length + r)) b' w' := fun h1 h2 h2' h3 h4 =>
      dOps_seg hC ops hfine r rest (k + 1) hrest h1 h2 h2' h3 Q fun x' a1' w1 ⟨m2, p1, p2, p3, p4⟩ => by
        have := hQ _ _ _ ⟨m2, p1, p2, p3, h4.trans p4⟩
        rw [show k + (o :: rest).length = k + 1 + rest.length by simp only [List.length_cons]; omega] at this
        exact this
    rw [dOps_cons] at h
    cases hw : wantedD ops a o with
    | false =>
      rw [hw] at h
      refine .skip hk (hwant.trans hw) ?_
      exact step h (hA.put (undef_rel m) _) ((put_junk _ _ _).trans hj) hR (Fr.refl _ _ _ _)
    | true =>
      rw [hw] at h
      split at h
      case h_2 => rename_i he; cases he
      case h_1 =>
        cases ho : dOp P o a.eval M with
        | none => rw [ho] at h; cases h
        | some p =>
          obtain ⟨r, M'⟩ := p
          rw [ho] at h
          have hok := dOp_ok hR hρ ho
          cases r with
          | comm v =>
            obtain ⟨cases, blocking, shape, v', hrun, hv, hst, rfl⟩ := hok
            exact .comm hk (hwant.trans hw) hrun hst (step h (hA.put hv _) ((put_junk _ _ _).trans hj) hR (Fr.refl _ _ _ _))
          | val v =>
            obtain ⟨m', w', n, hrun, hn, hR', hF⟩ := hok
            refine .op hk (hwant.trans hw) ?_
            unfold Oper.wp
            rw [hrun]
            cases n <;> first | exact hn.elim | skip
            exact step h ((hA.mono hF.le).put hn _) ((put_junk _ _ _).trans hj) hR' hF
          | skip =>
            obtain ⟨m', w', n, hrun, hn, hR', hF⟩ := hok
            refine .op hk (hwant.trans hw) ?_
            unfold Oper.wp
            rw [hrun]
            cases n <;> first | exact hn.elim | skip
            exact step h ((hA.mono hF.le).put (undef_rel m') _) ((put_junk _ _ _).trans hj) hR' hF
          | enter f args =>
            obtain ⟨m', w', n, hrun, hn, hR', hF⟩ := hok
            refine .op hk (hwant.trans hw) ?_
            unfold Oper.wp
            rw [hrun]
            cases n <;> first | exact hn.elim | skip
            rename_i f' args'
            obtain ⟨rfl, hargs⟩ := hn
            simp only at h
            cases hc : C.call f' args M' with
            | none => rw [hc] at h; cases h
            | some p =>
              obtain ⟨r, M''⟩ := p
              rw [hc] at h
              refine (hC.call hc hargs hR').mono fun e w'' ⟨m'', he, hR'', hF'⟩ => ?_
              cases r with
              | ret v =>
                cases e <;> first | exact he.elim | skip
                exact step h ((hA.mono (Inj.le_trans hF.le hF'.le)).put he _) ((put_junk _ _ _).trans hj) hR'' (hF.trans hF')
              | pan ch =>
                cases e <;> first | exact he.elim | skip
                simp only [Option.some.injEq, Prod.mk.injEq] at h
                obtain ⟨rfl, rfl, rfl⟩ := h
                exact hQ (.panic _) _ _ ⟨m'', he, hA.mono (Inj.le_trans hF.le hF'.le), hR'', hF.trans hF'⟩
          | defer d =>
            obtain ⟨m', w', n, hrun, hn, hR', hF⟩ := hok
            refine .op hk (hwant.trans hw) ?_
            unfold Oper.wp
            rw [hrun]
            cases n <;> first | exact hn.elim | skip
            have hA' := hA.mono hF.le
            rename_i d'
            exact step h (ARel.put (a := { a with defers := d :: a.defers }) (a' := { a' with defers := d' :: a'.defers }) ⟨hA'.size, hA'.small, hA'.tmp, DsRel.cons hn hA'.defers⟩ (undef_rel m') _) ((put_junk _ _ _).trans hj) hR' hF
          | recov => cases h
          | panic v =>
            obtain ⟨m', w', v', hrun, hv, hR', hF⟩ := hok
            refine .op hk (hwant.trans hw) ?_
            unfold Oper.wp
            rw [hrun]
            simp only [Option.some.injEq, Prod.mk.injEq] at h
            obtain ⟨rfl, rfl, rfl⟩ := h
            exact hQ (.panic [{ v := v', recovered := false }]) _ _ ⟨m', ⟨⟨hv, rfl, rfl⟩, trivial⟩, hA.mono hF.le, hR', hF⟩


/-- so many operations of a region, by the abstract machine -/
def segR (P : Program) (C : Callers) (ops : Array Oper) (k n : Nat) (s : DAct × Mem) : Option Out := dOps P C ops ((ops.toList.drop k).take n) s.1 s.2
def segD (P : Program) (C : Callers) (ops : Array Oper) (k n : Nat) (s : DAct × Mem) : DAct × Mem := ((segR P C ops k n s).map (·.2)).getD s
def segOK (P : Program) (C : Callers) (ops : Array Oper) (k n : Nat) (s : DAct × Mem) : Bool :=
  match segR P C ops k n s with
  | some (.normal, _, _) => s.1.junk.isEmpty && Nat.ble (k + n) ops.size
  | _ => false
theorem seg_wp (hC : COK P base C) {ops : Array Oper} (hfine : ops.toList.all (fineOper P) = true) {k n r : Nat} {s : DAct × Mem} (h : segOK P C ops k n s = true) {m : Inj} {w : World} {a' : Act} (hA : ARel m s.1 a') (hR : Rel P base m s.2 w)
    {Q : Exit → Act → World → Prop} (hQ : ∀ m' a1' w1, ARel m' (segD P C ops k n s).1 a1' → Rel P base m' (segD P C ops k n s).2 w1 → Fr base m m' s.2 (segD P C ops k n s).2 w w1 → OpsTo P ops Q (List.range' (k + n) r) a1' w1) :
    OpsTo P ops Q (List.range' k (n + r)) a' w := by
  unfold segOK at h
  split at h
  case h_2 => cases h
  rename_i a1 M1 hs
  simp only [Bool.and_eq_true, List.isEmpty_iff, Nat.ble_eq] at h
  have hlen : ((ops.toList.drop k).take n).length = n := by
    rw [List.length_take, List.length_drop, Array.length_toList]; omega
  have hd : segD P C ops k n s = (a1, M1) := by unfold segD; rw [hs]; rfl
  rw [hd] at hQ
  have key := dOps_seg (Q := Q) hC ops hfine r _ k ⟨_, (List.take_append_drop n (ops.toList.drop k)).symm⟩ hs hA h.1 hR
  rw [hlen] at key
  refine key fun x' a1' w1 ⟨m2, hx, p2, p3, p4⟩ => ?_
  cases x' <;> first | exact hx.elim | skip
  exact hQ m2 a1' w1 p2 p3 p4

/-- one operation by hand: it yields a value, and leaves the world -/
theorem hand_wp {ops : Array Oper} {k r : Nat} {o : Oper} (ho : ops[k]? = some o) {a : DAct} {a' : Act} {m : Inj} (hA : ARel m a a') (hj : a.junk = []) (hw : wantedD ops a o = true) {w : World} {v v' : Value}
    (hrun : (execOp a'.eval o).run P w = .ok (.value v') w) (hv : VRel m v v') {Q : Exit → Act → World → Prop} (hQ : ∀ a1', ARel m (a.put o.dst v) a1' → (a.put o.dst v).junk = [] → OpsTo P ops Q (List.range' (k + 1) r) a1' w) :
    OpsTo P ops Q (List.range' k (1 + r)) a' w := by
  rw [Nat.add_comm, List.range'_succ]
  refine .op ho ((hA.wanted hj ops o).trans hw) ?_
  unfold Oper.wp
  rw [hrun]
  exact hQ _ (hA.put hv _) ((put_junk _ _ _).trans hj)

/-- the region's own end -/
theorem ops_end {ops : Array Oper} {k : Nat} {Q : Exit → Act → World → Prop} {a : Act} {w : World} (h : Q .normal a w) : OpsTo P ops Q (List.range' k 0) a w := .nil h

/-- an operation that is not wanted -/
theorem skip_wp {ops : Array Oper} {k r : Nat} {o : Oper} (ho : ops[k]? = some o) {a : DAct} {a' : Act} {m : Inj} (hA : ARel m a a') (hj : a.junk = []) (hw : wantedD ops a o = false) {w : World}
    {Q : Exit → Act → World → Prop} (hQ : ∀ a1', ARel m (a.put o.dst undef) a1' → (a.put o.dst undef).junk = [] → OpsTo P ops Q (List.range' (k + 1) r) a1' w) :
    OpsTo P ops Q (List.range' k (1 + r)) a' w := by
  rw [Nat.add_comm, List.range'_succ]
  exact .skip ho ((hA.wanted hj ops o).trans hw) (hQ _ (hA.put (undef_rel m) _) ((put_junk _ _ _).trans hj))

/-! ### what came in -/
/-- a block that lies there is told of, to be read -/
theorem Rel.tell {m : Inj} {M : Mem} {w : World} (hR : Rel P base m M w) {b : Nat} (hb : m b = none) (hlt : b < M.next) {L : Loc} {cs : List Value} (hext : L.extra = 0)
    {cc : Array Value} {e : TypeId} {fz : Nat × Nat} (hh : w.heap[L.block]? = some (.cells cc e fz)) (hbelow : L.block < base) (hcs : VsRel (m.set b L) cs (Ab.seg cc L.off cs.length)) :
    Rel P base (m.set b L) (M.put b (.cells cs 0 false false true)) w := by
  have hle := Inj.le_set L hb
  have hsm := hR.small
  have hlive : L.block < w.heap.size := (Array.getElem?_eq_some_iff.1 hh).1
  refine ⟨fun g hg => hle _ _ (hR.low g hg), fun x Lx o hx hg => ?_, fun x y Lx Ly hx hy ox oy he => ?_, fun x Lx hx => ?_, fun x Lx hx => ?_, hR.base, hsm⟩
  · by_cases hxb : x = b
    · subst hxb
      rw [Inj.set_same] at hx; cases hx
      rw [M.get_put_same _ (by omega)] at hg
      cases hg
      exact ⟨cc, e, fz, hh, hcs, ⟨fun _ => ⟨hext, fun t ht => by cases ht⟩, fun h => by cases h⟩, fun _ => hbelow, fun h => by cases h⟩
    · rw [Inj.set_ne _ _ hxb] at hx
      rw [M.get_put_ne _ hxb] at hg
      exact (hR.obj x Lx o hx hg).mono hle rfl
  · have down : ∀ z, (M.put b (.cells cs 0 false false true)).own z → z ≠ b ∧ M.own z := by
      rintro z ⟨o, hg, ho⟩
      by_cases hz : z = b
      · subst hz
        rw [M.get_put_same _ (by omega)] at hg
        cases hg; cases ho
      · rw [M.get_put_ne _ hz] at hg
        exact ⟨hz, o, hg, ho⟩
    obtain ⟨hxb, ox⟩ := down x ox
    obtain ⟨hyb, oy⟩ := down y oy
    rw [Inj.set_ne _ _ hxb] at hx
    rw [Inj.set_ne _ _ hyb] at hy
    exact hR.apart x y Lx Ly hx hy ox oy he
  · by_cases hxb : x = b
    · subst hxb; rw [Inj.set_same] at hx; cases hx; exact hlive
    · rw [Inj.set_ne _ _ hxb] at hx; exact hR.live x Lx hx
  · by_cases hxb : x = b
    · subst hxb; exact hlt
    · rw [Inj.set_ne _ _ hxb] at hx; exact hR.fresh x Lx hx
/-- a symbol is told of -/
theorem Rel.symbol {m : Inj} {M : Mem} {w : World} (hR : Rel P base m M w) {b : Nat} (hb : m b = none) (hlt : b < M.next) {L : Loc} (hlive : L.block < w.heap.size) : Rel P base (m.set b L) (M.put b .dead) w := by
  have hle := Inj.le_set L hb
  have hsm := hR.small
  have down : ∀ z, (M.put b .dead).own z → z ≠ b ∧ M.own z := by
    rintro z ⟨o, hg, ho⟩
    by_cases hz : z = b
    · subst hz
      rw [M.get_put_same _ (by omega)] at hg
      cases hg; cases ho
    · rw [M.get_put_ne _ hz] at hg
      exact ⟨hz, o, hg, ho⟩
  refine ⟨fun g hg => hle _ _ (hR.low g hg), fun x Lx o hx hgx => ?_, fun x y Lx Ly hx hy ox oy he => ?_, fun x Lx hx => ?_, fun x Lx hx => ?_, hR.base, hsm⟩
  · by_cases hxb : x = b
    · subst hxb
      rw [M.get_put_same _ (by omega)] at hgx
      cases hgx; trivial
    · rw [Inj.set_ne _ _ hxb] at hx
      rw [M.get_put_ne _ hxb] at hgx
      exact (hR.obj x Lx o hx hgx).mono hle rfl
  · obtain ⟨hxb, ox⟩ := down x ox
    obtain ⟨hyb, oy⟩ := down y oy
    rw [Inj.set_ne _ _ hxb] at hx
    rw [Inj.set_ne _ _ hyb] at hy
    exact hR.apart x y Lx Ly hx hy ox oy he
  · by_cases hxb : x = b
    · subst hxb; rw [Inj.set_same] at hx; cases hx; exact hlive
    · rw [Inj.set_ne _ _ hxb] at hx; exact hR.live x Lx hx
  · by_cases hxb : x = b
    · subst hxb; exact hlt
    · rw [Inj.set_ne _ _ hxb] at hx; exact hR.fresh x Lx hx
theorem ARel.know {m : Inj} {a : DAct} {a' : Act} (h : ARel m a a') {i : Nat} {v : Value} (hv : VRel m v (a'.tmps.getD i undef)) : ARel m (a.put (some i) v) a' := by
  have hs := h.small
  refine ⟨by rw [DAct.put_some]; simp only [cond_eq_ite]; split <;> exact h.size, by rw [DAct.put_some]; simp only [cond_eq_ite]; split <;> exact h.small, fun j hj => ?_, by rw [put_defers]; exact h.defers⟩
  rw [put_junk] at hj
  by_cases hi : i < a.n
  · rw [put_tmp v (fun d hd => by cases hd; exact hi) hs]
    simp only [Option.some.injEq]
    split
    · rename_i he; subst he; exact hv
    · exact h.tmp j hj
  · have : a.put (some i) v = a := by
      rw [DAct.put_some]
      have : Nat.blt i a.n = false := by
        cases hb : Nat.blt i a.n with
        | false => rfl
        | true => exact absurd (by simpa [Nat.blt_eq] using hb) hi
      rw [this]; rfl
    rw [this]
    exact h.tmp j hj

theorem Fr.stays {m m' : Inj} {M M' : Mem} {w w' : World} (hF : Fr base m m' M M' w w') {b : Nat} (hb : m b = none) (hlt : b < M.next) : m' b = none := by
  cases h : m' b with
  | none => rfl
  | some L => have := hF.newid b L h hb; omega
theorem ARel.int_at {m : Inj} {a : DAct} {a' : Act} (h : ARel m a a') (hj : a.junk = []) {i : Nat} {k : IntKind} {z : Int} (ht : a.tmp i = .int k z) : a'.tmps.getD i undef = .int k z := by
  have := h.tmp i (by rw [hj]; simp)
  rw [ht] at this
  generalize a'.tmps.getD i undef = v at this
  cases this; rfl
theorem ARel.len_at {m : Inj} {a : DAct} {a' : Act} (h : ARel m a a') (hj : a.junk = []) {i b : Nat} (ht : a.tmp i = .complex .f64 3 b) {L : Loc} (hL : m b = some L) : a'.tmps.getD i undef = .int .i64 (L.extra : Int) := by
  have := h.tmp i (by rw [hj]; simp)
  rw [ht] at this
  generalize a'.tmps.getD i undef = v at this
  cases this with
  | symL h2 => rw [hL] at h2; cases h2; rfl
theorem ARel.slice_at {m : Inj} {a : DAct} {a' : Act} (h : ARel m a a') (hj : a.junk = []) {i b : Nat} (ht : a.tmp i = .complex .f64 2 b) {L : Loc} (hL : m b = some L) (hn : 0 < L.extra) :
    ∃ c, a'.tmps.getD i undef = .slice (some ⟨L.block, L.off, none⟩) L.extra c := by
  have := h.tmp i (by rw [hj]; simp)
  rw [ht] at this
  generalize a'.tmps.getD i undef = v at this
  cases this with
  | symS c h2 => rw [hL] at h2; cases h2; exact ⟨c, rfl⟩
  | symE a c h2 he => rw [hL] at h2; cases h2; omega

/-- a piece of code, by the abstract machine -/
def runD (P : Program) (C : Callers) (c : Code) (s : DAct × Mem) : DAct × Mem := ((dCode P C (dDraw P C) 1000 c s.1 s.2).map (·.2)).getD s
def runOK (P : Program) (C : Callers) (c : Code) (s : DAct × Mem) : Bool :=
  match dCode P C (dDraw P C) 1000 c s.1 s.2 with
  | some (.normal, _, _) => true
  | _ => false
theorem run_wp (hC : COK P base C) {c : Code} (hf : fineCode P c = true) {s : DAct × Mem} (h : runOK P C c s = true) {m : Inj} {w : World} {a' : Act} (hA : ARel m s.1 a') (hR : Rel P base m s.2 w)
    {Q : Exit → Act → World → Prop} (hQ : ∀ m' a1' w1, ARel m' (runD P C c s).1 a1' → Rel P base m' (runD P C c s).2 w1 → Fr base m m' s.2 (runD P C c s).2 w w1 → Q .normal a1' w1) : c.wp P Q a' w := by
  unfold runOK at h
  split at h
  case h_2 => cases h
  rename_i a1 M1 hd
  have hr : runD P C c s = (a1, M1) := by unfold runD; rw [hd]; rfl
  rw [hr] at hQ
  refine wp_mono (dCode_ok hC (dDraw_ok hC) c hf hd hA hR) fun e a2 w2 ⟨m2, hx, p2, p3, p4⟩ => ?_
  cases e <;> first | exact hx.elim | skip
  exact hQ m2 a2 w2 p2 p3 p4

/-! ### single operations -/
def isLss (o : Oper) (i j : Nat) : Bool :=
  match o.op with
  | .binOp .lss _ (.tmp x) (.tmp y) _ => Nat.beq x i && Nat.beq y j
  | _ => false
theorem lss_hand {o : Oper} {i j : Nat} (h : isLss o i j = true) {a' : Act} {x y : Int} (hx : a'.tmps.getD i undef = .int .i64 x) (hy : a'.tmps.getD j undef = .int .i64 y) (w : World) : (execOp a'.eval o).run P w = .ok (.value (.bool (decide (x < y)))) w := by
  unfold isLss at h
  split at h
  · rename_i t p q ty ho
    simp only [Bool.and_eq_true, Nat.beq_eq] at h
    obtain ⟨rfl, rfl⟩ := h
    have ex : a'.eval (.tmp p) = .int .i64 x := by rw [← hx]; rfl
    have ey : a'.eval (.tmp q) = .int .i64 y := by rw [← hy]; rfl
    unfold execOp
    rw [ho]
    simp [ex, ey, eqGuard, binOp, Op.intCmp]
  · cases h
def isLssC (o : Oper) (i : Nat) (c : Int) : Bool :=
  match o.op with
  | .binOp .lss _ (.tmp x) (.const (.int .i64 d)) _ => Nat.beq x i && decide (d = c)
  | _ => false
theorem lssC_hand {o : Oper} {i : Nat} {c : Int} (h : isLssC o i c = true) {a' : Act} {x : Int} (hx : a'.tmps.getD i undef = .int .i64 x) (w : World) : (execOp a'.eval o).run P w = .ok (.value (.bool (decide (x < c)))) w := by
  unfold isLssC at h
  split at h
  · rename_i t p d ty ho
    simp only [Bool.and_eq_true, Nat.beq_eq, decide_eq_true_eq] at h
    obtain ⟨rfl, rfl⟩ := h
    have ex : a'.eval (.tmp p) = .int .i64 x := by rw [← hx]; rfl
    have ey : a'.eval (.const (.int .i64 d)) = .int .i64 d := rfl
    unfold execOp
    rw [ho]
    simp [ex, ey, eqGuard, binOp, Op.intCmp]
  · cases h
def isEqlC (o : Oper) (i : Nat) (c : Int) : Bool :=
  match o.op with
  | .binOp .eql _ (.tmp x) (.const (.int .i64 d)) _ => Nat.beq x i && decide (d = c)
  | _ => false
theorem eqlC_hand {o : Oper} {i : Nat} {c : Int} (h : isEqlC o i c = true) {a' : Act} {x : Int} (hx : a'.tmps.getD i undef = .int .i64 x) (w : World) : (execOp a'.eval o).run P w = .ok (.value (.bool (decide (x = c)))) w := by
  unfold isEqlC at h
  split at h
  · rename_i t p d ty ho
    simp only [Bool.and_eq_true, Nat.beq_eq, decide_eq_true_eq] at h
    obtain ⟨rfl, rfl⟩ := h
    have ex : a'.eval (.tmp p) = .int .i64 x := by rw [← hx]; rfl
    have ey : a'.eval (.const (.int .i64 d)) = .int .i64 d := rfl
    unfold execOp
    rw [ho]
    simp [ex, ey, eqGuard, binOp, Op.intCmp]
    rw [Bool.eq_iff_iff]; simp
  · cases h
/-- the place of a slice's element; the elements are of one cell -/
def isAt (P : Program) (o : Oper) (i : Nat) : Option Operand :=
  match o.op with
  | .indexAddr t (.tmp x) y =>
    match pund P t with
    | some (.slice e) =>
      match szOf P e with
      | some 1 => bif Nat.beq x i then some y else none
      | _ => none
    | _ => none
  | _ => none
theorem at_hand {o : Oper} {i : Nat} {y : Operand} (h : isAt P o i = some y) {a' : Act} {B off n c k : Nat} (hx : a'.tmps.getD i undef = .slice (some ⟨B, off, none⟩) n c) (hy : a'.eval y = .int .i64 (k : Int)) (hk : k < n) (w : World) :
    (execOp a'.eval o).run P w = .ok (.value (.pointer (some ⟨B, off + k, none⟩))) w := by
  unfold isAt at h
  split at h
  case h_2 => cases h
  rename_i t p q ho
  split at h
  case h_2 => cases h
  rename_i e hu
  split at h
  case h_2 => cases h
  rename_i hsz
  simp only [cond_eq_ite, Nat.beq_eq] at h
  split at h
  case isFalse => cases h
  rename_i hp
  subst hp
  cases h
  have ex : a'.eval (.tmp p) = .slice (some ⟨B, off, none⟩) n c := by rw [← hx]; rfl
  have hd : dIndexAddr P t (.slice (some ⟨0, 0, none⟩) n c) (.int .i64 (Int.ofNat k)) = some (.pointer (some ⟨0, 0 + k * 1, none⟩)) := by
    have hb : Nat.blt k n = true := by rw [Nat.blt_eq]; exact hk
    unfold dIndexAddr
    rw [hu]
    simp only [hsz, hb, cond_true]
  have hm : VRel (fun _ => some ⟨B, off, 0⟩ : Inj) (.slice (some ⟨0, 0, none⟩) n c) (.slice (some ⟨B, off, none⟩) n c) := by
    have := VRel.slice (m := (fun _ => some ⟨B, off, 0⟩ : Inj)) (b := 0) (o := 0) (l := n) (c := c) (L := ⟨B, off, 0⟩) rfl
    simpa using this
  obtain ⟨v', hrun, hv⟩ := dIndexAddr_ok (w := w) hm (.int .i64 (Int.ofNat k)) hd
  cases hv with
  | ptr hL =>
    cases hL
    unfold execOp
    rw [ho]
    simp only [ex, hy]
    have e : ((k : Nat) : Int) = Int.ofNat k := rfl
    rw [e]
    simp only [Sem.run_bind, hrun, Result.andThen_ok, Sem.run_pure]
    simp
end
end
end Go.Ab
