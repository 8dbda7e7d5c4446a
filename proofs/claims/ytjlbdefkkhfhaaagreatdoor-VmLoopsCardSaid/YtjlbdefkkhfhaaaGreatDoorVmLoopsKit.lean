/- Loops by hand and by the abstract machine: rounds; a call within a region of which a contract tells; heads at which an int stands between bounds. -/
import Derived.Test.YtjlbdefkkhfhaaaGreatDoorVmLoopsSt
namespace Go.Proofs.YtjlbdefkkhfhaaaGreatDoor.vmLoops
open Go Go.Ab Go.RowKit
noncomputable section
def reg : Code → Array Oper
  | .region _ ops _ => ops
  | _ => #[]
def regId : Code → Nat
  | .region i _ _ => i
  | _ => 0
def inner : Code → Code
  | .block _ c => c
  | .loop c => c
  | c => c
def nthC (l : List Code) (i : Nat) : Code := l.getD i .skip
def opAt (ops : Array Oper) (k : Nat) : Oper := (ops[k]?).getD default

section
variable {P : Program} {base : Nat} {C : Callers}
/-- so many rounds of a loop's body -/
def iterD (run : Code → DAct → Mem → Option Out) (c : Code) : Nat → DAct → Mem → Option Out
  | 0, a, M => some (.normal, a, M)
  | n + 1, a, M =>
    match run c a M with
    | some (.normal, a', M') => iterD run c n a' M'
    | r => r
def iterS (P : Program) (C : Callers) (c : Code) (n : Nat) (s s' : St) : Bool :=
  match iterD (dCode P C (dDraw P C) 1000) c n s.act s.mem with
  | some (.normal, a1, M1) => weakS P.globals.size [] a1 M1 s'
  | _ => false
theorem iterD_ok (hC : COK P base C) {c : Code} (hf : fineCode P c = true) {w0 : World} {Q : Exit → Act → World → Prop} {N : Nat} : ∀ (n : Nat) {a : DAct} {M : Mem} {a1 : DAct} {M1 : Mem}, iterD (dCode P C (dDraw P C) 1000) c n a M = some (.normal, a1, M1) →
    ∀ {m : Inj} {w : World} {a' : Act}, ARel m a a' → Rel P base m M w → Below base w0 w → (∀ m2 a2 w2, ARel m2 a1 a2 → Rel P base m2 M1 w2 → Below base w0 w2 → Code.rounds P c Q N a2 w2) → Code.rounds P c Q (n + N) a' w
  | 0, a, M, a1, M1, h, m, w, a', hA, hR, hb, hQ => by
    simp only [iterD, Option.some.injEq, Prod.mk.injEq, true_and] at h
    obtain ⟨rfl, rfl⟩ := h
    rw [Nat.zero_add]
    exact hQ m a' w hA hR hb
  | n + 1, a, M, a1, M1, h, m, w, a', hA, hR, hb, hQ => by
    unfold iterD at h
    rw [show n + 1 + N = (n + N) + 1 by omega, rounds_succ]
    split at h
    · rename_i a2 M2 hd
      refine wp_mono (dCode_ok hC (dDraw_ok hC) c hf hd hA hR) fun e a3 w3 ⟨m3, hx, p2, p3, p4⟩ => ?_
      cases e <;> first | exact hx.elim | skip
      exact iterD_ok hC hf n h p2 p3 (hb.trans (p4.below hR.base)) hQ
    · rename_i hno
      exact absurd h (hno _ _)
theorem iterS_ok (hC : COK P base C) {c : Code} (hf : fineCode P c = true) {w0 : World} {Q : Exit → Act → World → Prop} {N n : Nat} {s s' : St} (h : iterS P C c n s s' = true) {w : World} {a' : Act} (hs : AtS P base w0 s a' w)
    (hQ : ∀ a2 w2, AtS P base w0 s' a2 w2 → Code.rounds P c Q N a2 w2) : Code.rounds P c Q (n + N) a' w := by
  unfold iterS at h
  split at h
  case h_2 => cases h
  rename_i a1 M1 hd
  obtain ⟨m, hA, hR, hb⟩ := hs
  refine iterD_ok hC hf n hd hA hR hb fun m2 a2 w2 hA2 hR2 hb2 => ?_
  obtain ⟨m3, _, hA3, hR3⟩ := weakS_ok h hA2 hR2 (by simp)
  exact hQ _ _ ⟨m3, hA3, hR3, hb2⟩

/-- by hand: the temporary holds v -/
def byHand (s : DAct × Mem) (i : Nat) (v : Value) : DAct × Mem := (s.1.put (some i) v, s.2)
abbrev calmA (s : DAct × Mem) : Bool := s.1.junk.isEmpty
theorem calm_of {s : DAct × Mem} (h : calmA s = true) : s.1.junk = [] := by simpa using h

theorem seg_to (hC : COK P base C) {ops : Array Oper} (hfine : ops.toList.all (fineOper P) = true) {k n r : Nat} {s t : DAct × Mem} (ht : t = segD P C ops k n s) (h : segOK P C ops k n s = true) {m : Inj} {w : World} {a' : Act} (hA : ARel m s.1 a') (hR : Rel P base m s.2 w)
    {Q : Exit → Act → World → Prop} (hQ : ∀ m' a1' w1, ARel m' t.1 a1' → Rel P base m' t.2 w1 → Fr base m m' s.2 t.2 w w1 → OpsTo P ops Q (List.range' (k + n) r) a1' w1) :
    OpsTo P ops Q (List.range' k (n + r)) a' w := by
  subst ht
  exact seg_wp hC hfine h hA hR hQ
theorem run_to (hC : COK P base C) {c : Code} (hf : fineCode P c = true) {s t : DAct × Mem} (ht : t = runD P C c s) (h : runOK P C c s = true) {m : Inj} {w : World} {a' : Act} (hA : ARel m s.1 a') (hR : Rel P base m s.2 w)
    {Q : Exit → Act → World → Prop} (hQ : ∀ m' a1' w1, ARel m' t.1 a1' → Rel P base m' t.2 w1 → Fr base m m' s.2 t.2 w w1 → Q .normal a1' w1) : c.wp P Q a' w := by
  subst ht
  exact run_wp hC hf h hA hR hQ
theorem hand_to {ops : Array Oper} {k r : Nat} {o : Oper} (ho : ops[k]? = some o) {i : Nat} (hd : o.dst = some i) {s : DAct × Mem} {a' : Act} {m : Inj} {w : World} (hA : ARel m s.1 a') (hR : Rel P base m s.2 w) (hj : calmA s = true) (hw : wantedD ops s.1 o = true) {v v' : Value}
    (hrun : (execOp a'.eval o).run P w = .ok (.value v') w) (hv : VRel m v v') {Q : Exit → Act → World → Prop} {t : DAct × Mem} (ht : t = byHand s i v) (hQ : ∀ a1', ARel m t.1 a1' → Rel P base m t.2 w → OpsTo P ops Q (List.range' (k + 1) r) a1' w) :
    OpsTo P ops Q (List.range' k (1 + r)) a' w := by
  subst ht
  refine hand_wp ho hA (by simpa using hj) hw hrun hv fun a1' h1 _ => ?_
  rw [hd] at h1
  exact hQ a1' h1 hR

/-- a call of which a contract tells: v comes back, the memory is Mv -/
theorem call_to {ops : Array Oper} {k r : Nat} {o : Oper} (ho : ops[k]? = some o) {i : Nat} (hd : o.dst = some i) (hfo : fineOper P o = true) {s : DAct × Mem} {a' : Act} {m : Inj} {w : World} (hA : ARel m s.1 a') (hR : Rel P base m s.2 w) (hj : calmA s = true) (hw : wantedD ops s.1 o = true)
    {f : FuncId} {args : Array Value} {M' Mv : Mem} {v : Value} (hop : dOp P o s.1.eval s.2 = some (.enter f args, M'))
    (hcall : ∀ m' args' w', Fr base m m' s.2 M' w w' → VsRel m' args.toList args'.toList → Rel P base m' M' w' → Calls P f args' w' fun e w'' => ∃ m'' v', e = .returned v' ∧ m'.le m'' ∧ VRel m'' v v' ∧ Rel P base m'' Mv w'' ∧ Below base w' w'')
    {Q : Exit → Act → World → Prop} {t : DAct × Mem} (ht : t = (s.1.put (some i) v, Mv)) (hQ : ∀ m'' a1' w'', m.le m'' → ARel m'' t.1 a1' → Rel P base m'' t.2 w'' → Below base w w'' → OpsTo P ops Q (List.range' (k + 1) r) a1' w'') :
    OpsTo P ops Q (List.range' k (1 + r)) a' w := by
  subst ht
  rw [Nat.add_comm, List.range'_succ]
  have hj' := calm_of hj
  have hρ : ∀ y ∈ o.op.operands, VRel m (s.1.eval y) (a'.eval y) := fun y hy => hA.eval hj' hR (by
    unfold fineOper at hfo
    try simp only [pinfo_eq, pund_eq, pfn_eq] at hfo
    rw [List.all_eq_true] at hfo
    exact hfo y (by simpa using hy))
  have hok := dOp_ok hR hρ hop
  obtain ⟨m', w', n, hrun, hn, hR', hF⟩ := hok
  refine .op ho ((hA.wanted hj' ops o).trans hw) ?_
  unfold Oper.wp
  rw [hrun]
  cases n <;> first | exact hn.elim | skip
  rename_i f' args'
  obtain ⟨rfl, hargs⟩ := hn
  refine (hcall m' args' w' hF hargs hR').mono fun e w'' ⟨m'', v', he, hle, hv, hR'', hb⟩ => ?_
  subst he
  have hA2 := (hA.mono (Inj.le_trans hF.le hle)).put hv (some i)
  have := hQ m'' _ w'' (Inj.le_trans hF.le hle) hA2 hR'' ((hF.below hR.base).trans hb)
  rw [← hd] at this
  exact this

/-- an int that stands between bounds -/
theorem ARel.between {m : Inj} {a : DAct} {a' : Act} (h : ARel m a a') (hj : a.junk = []) {i lo hi : Nat} (hhi : 0 < hi) (ht : a.tmp i = .complex .f32 lo hi) : ∃ k : Nat, a'.tmps.getD i undef = .int .i64 (k : Int) ∧ lo ≤ k ∧ k < hi := by
  have := h.tmp i (by rw [hj]; simp)
  rw [ht] at this
  generalize a'.tmps.getD i undef = v at this
  cases this with
  | aint _ _ k hk =>
    rcases hk with hk | hk
    · omega
    · exact ⟨k.toNat, by congr 1; omega, by omega, by omega⟩
theorem bool_at {m : Inj} {a : DAct} {a' : Act} (h : ARel m a a') (hj : a.junk = []) {i : Nat} {b : Bool} (ht : a.tmp i = .bool b) : a'.eval (.tmp i) = .bool b := by
  have := h.tmp i (by rw [hj]; simp)
  rw [ht] at this
  show a'.tmps.getD i undef = _
  generalize a'.tmps.getD i undef = v at this
  cases this; rfl

/-! ### what is kept, is kept -/
def subK (G : Nat) (j g : St) : Bool := j.objs.all fun p => Nat.blt p.1 4294967296 && keepOf G g.next g.objs p.1
theorem subK_ok {G : Nat} {j g : St} (h : subK G j g = true) {b : Nat} (hb : keepOf G j.next j.objs b = true) : keepOf G g.next g.objs b = true := by
  unfold subK at h
  simp only [List.all_eq_true, Bool.and_eq_true, Nat.blt_eq] at h
  have hb' := hb
  unfold keepOf at hb'
  simp only [Bool.or_eq_true, Nat.blt_eq, Option.isSome_iff_exists] at hb'
  rcases hb' with hb' | ⟨o, ho⟩
  · unfold keepOf
    simp [Nat.blt_eq, hb']
  · exact (h _ (memOf_get (fun p hp => (h p hp).1) ho)).2
theorem le_only {m0 m : Inj} {keep : Nat → Bool} (hle : m0.le m) (hk : ∀ b L, m0 b = some L → keep b = true) : m0.le (m.only keep) := fun b L h => by
  simp only [Inj.only, hk b L h, if_true]
  exact hle b L h
theorem only_keeps {m : Inj} {keep : Nat → Bool} : ∀ b L, m.only keep b = some L → keep b = true := fun b L h => by
  unfold Inj.only at h
  split at h
  · assumption
  · cases h
/-- no new block: what is told of is kept -/
theorem keeps_on {m m' : Inj} {M M' : Mem} {w w' : World} (hF : Fr base m m' M M' w w') (hR : Rel P base m' M' w') (hn : M'.next = M.next) {keep : Nat → Bool} (hk : ∀ b L, m b = some L → keep b = true) : ∀ b L, m' b = some L → keep b = true := fun b L h => by
  cases hm : m b with
  | some L' => exact hk b L' hm
  | none =>
    have h1 := hF.newid b L h hm
    have h2 := hR.fresh b L h
    omega

/-- the rest of the body is run: v comes back, the memory is as the state says -/
def endM (P : Program) (C : Callers) (l : List Code) (fn : Func) (v : Value) (a : DAct) (M : Mem) (j : St) : Bool :=
  match dList (dCode P C (dDraw P C) 1000) l a M with
  | some (.ret, a1, M1) =>
    match dLeaves P C fn a1 a1.defers .returning M1 with
    | some (.ret v', M2) => veqN 6 v' v && flat v && weakS P.globals.size [] (actOf 0 [] []) M2 { n := 0, tmps := [], defers := [], next := j.next, objs := j.objs }
    | _ => false
  | _ => false
theorem endM_wp (hC : COK P base C) {l : List Code} (hL : l.all (fineCode P) = true) {fn : Func} {v : Value} {a : DAct} {M : Mem} {j : St} (h : endM P C l fn v a M j = true) {m0 m : Inj} {a' : Act} {w0 w : World} (hA : ARel m a a') (hR : Rel P base m M w) (hb : Below base w0 w)
    (hle : m0.le m) (hk : ∀ b L, m0 b = some L → keepOf P.globals.size j.next j.objs b = true) :
    wpL P l (bodyPostD P fn fun e w' => ∃ m' v', e = .returned v' ∧ m0.le m' ∧ VRel m' v v' ∧ Rel P base m' j.mem w' ∧ Below base w0 w') a' w := by
  unfold endM at h
  split at h
  case h_2 => cases h
  rename_i a1 M1 hd
  refine wpL_mono (fun x a2 w2 ⟨m2, hx, hA2, hR2, hF2⟩ => ?_) _ (dList_ok hC (dDraw_ok hC) _ hL hd hA hR)
  cases x <;> first | exact hx.elim | skip
  split at h
  case h_2 => cases h
  rename_i v' M2 hl
  simp only [Bool.and_eq_true] at h
  have hv := veqN_eq _ _ _ h.1.1
  subst hv
  refine dLeaves_ok (u' := .returning) hC hl hA2 hA2.defers trivial hR2 _ fun e w3 ⟨m3, p1, p2, p3⟩ => ?_
  cases e <;> first | exact p1.elim | skip
  have hfl := flat_eq h.1.2 p1
  have dummy : ARel m3 (actOf 0 [] []) ⟨#[], []⟩ := ⟨rfl, by decide, fun i _ => undef_rel _, trivial⟩
  obtain ⟨_, hRw⟩ := weakS_only h.2 dummy p2 (by simp)
  exact ⟨_, _, rfl, le_only (Inj.le_trans hle (Inj.le_trans hF2.le p3.le)) hk, by rw [hfl]; exact flat_rel h.1.2, hRw, hb.trans ((hF2.trans p3).below hR.base)⟩
end
end
end Go.Proofs.YtjlbdefkkhfhaaaGreatDoor.vmLoops
