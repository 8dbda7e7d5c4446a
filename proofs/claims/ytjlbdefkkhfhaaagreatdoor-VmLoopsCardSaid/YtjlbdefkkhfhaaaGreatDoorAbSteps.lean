/- Long runs in steps: lists of codes, run by the abstract machine piece by piece between states that are typed out; a function's contract told to the abstract machine. -/
import Derived.Test.YtjlbdefkkhfhaaaGreatDoorAbFork
import Derived.Test.YtjlbdefkkhfhaaaGreatDoorAbWeak
import Derived.Test.YtjlbdefkkhfhaaaGreatDoorAbLaid
namespace Go.Ab
open Go
noncomputable section

/-! ## lists of codes -/
def flatC : Code → List Code
  | .seq a b => flatC a ++ flatC b
  | c => [c]
def wpL (P : Program) : List Code → (Exit → Act → World → Prop) → Act → World → Prop
  | [], Q, a, w => Q .normal a w
  | c :: l, Q, a, w => c.wp P (Exit.then (wpL P l Q) Q) a w
def dList (run : Code → DAct → Mem → Option Out) : List Code → DAct → Mem → Option Out
  | [], a, M => some (.normal, a, M)
  | c :: l, a, M =>
    match run c a M with
    | some (.normal, a', M') => dList run l a' M'
    | r => r
def thenL (run : Code → DAct → Mem → Option Out) (l : List Code) : Option Out → Option Out
  | some (.normal, a, M) => dList run l a M
  | r => r

section
variable {P : Program}
theorem then_mono {K K' : Act → World → Prop} {Q Q' : Exit → Act → World → Prop} (hk : ∀ a w, K a w → K' a w) (hq : ∀ e a w, Q e a w → Q' e a w) {e : Exit} {a : Act} {w : World} (h : Exit.then K Q e a w) : Exit.then K' Q' e a w := by
  cases e <;> first | exact hk _ _ h | exact hq _ _ _ h
theorem wpL_mono {Q Q' : Exit → Act → World → Prop} (hq : ∀ e a w, Q e a w → Q' e a w) : ∀ (l : List Code) {a : Act} {w : World}, wpL P l Q a w → wpL P l Q' a w
  | [], _, _, h => hq _ _ _ h
  | _ :: l, _, _, h => wp_mono h fun _ _ _ h => then_mono (fun _ _ h => wpL_mono hq l h) hq h
theorem wpL_append {k : List Code} {Q : Exit → Act → World → Prop} : ∀ (l : List Code) {a : Act} {w : World}, wpL P l (Exit.then (wpL P k Q) Q) a w → wpL P (l ++ k) Q a w
  | [], _, _, h => h
  | _ :: l, _, _, h => wp_mono h fun e _ _ h => by
    cases e <;> first | exact wpL_append l h | exact h
theorem wp_flat : ∀ (c : Code) {Q : Exit → Act → World → Prop} {a : Act} {w : World}, wpL P (flatC c) Q a w → c.wp P Q a w := by
  have one : ∀ {c : Code} {Q : Exit → Act → World → Prop} {a : Act} {w : World}, wpL P [c] Q a w → c.wp P Q a w := fun h => wp_mono h fun e _ _ h => by cases e <;> exact h
  intro c
  induction c with
  | seq x y ihx ihy =>
    intro Q a w h
    have key : ∀ (l : List Code) {a : Act} {w : World}, wpL P (l ++ flatC y) Q a w → wpL P l (Exit.then (wpL P (flatC y) Q) Q) a w := by
      intro l
      induction l with
      | nil => exact fun h => h
      | cons c l ih => exact fun h => wp_mono h fun e _ _ h => by cases e <;> first | exact ih h | exact h
    exact wp_seq (wp_mono (ihx (key _ h)) fun e _ _ h => then_mono (fun _ _ h => ihy h) (fun _ _ _ h => h) h)
  | _ => exact one

variable {base : Nat} {C : Callers} {draw : Array Oper → DAct → Mem → Option (Exit × DAct × Mem)} {K : Nat}
theorem dList_ok (hC : COK P base C) (hD : DrawOK P base draw) : ∀ (l : List Code), l.all (fineCode P) = true → ∀ {a : DAct} {M : Mem} {x : Exit} {a1 : DAct} {M1 : Mem}, dList (dCode P C draw K) l a M = some (x, a1, M1) →
    ∀ {m : Inj} {w : World} {a' : Act}, ARel m a a' → Rel P base m M w → wpL P l (Post P base m M w x a1 M1) a' w
  | [], _, a, M, x, a1, M1, h, m, w, a', hA, hR => by
    simp only [dList, Option.some.injEq, Prod.mk.injEq] at h
    obtain ⟨rfl, rfl, rfl⟩ := h
    exact ⟨m, trivial, hA, hR, Fr.refl _ _ _ _⟩
  | c :: l, hf, a, M, x, a1, M1, h, m, w, a', hA, hR => by
    simp only [List.all_cons, Bool.and_eq_true] at hf
    unfold dList at h
    cases hc : dCode P C draw K c a M with
    | none => rw [hc] at h; cases h
    | some p =>
      obtain ⟨x0, a0, M0⟩ := p
      rw [hc] at h
      refine wp_mono (dCode_ok hC hD c hf.1 hc hA hR) fun e a2 w2 ⟨m2, hx, hA2, hR2, hF2⟩ => ?_
      cases x0 with
      | normal =>
        cases e <;> first | exact hx.elim | skip
        exact wpL_mono (fun _ _ _ hp => hp.trans hF2) l (dList_ok hC hD l hf.2 h hA2 hR2)
      | exit i =>
        simp only [Option.some.injEq, Prod.mk.injEq] at h
        obtain ⟨rfl, rfl, rfl⟩ := h
        cases e <;> first | exact hx.elim | exact ⟨m2, hx, hA2, hR2, hF2⟩
      | ret =>
        simp only [Option.some.injEq, Prod.mk.injEq] at h
        obtain ⟨rfl, rfl, rfl⟩ := h
        cases e <;> first | exact hx.elim | exact ⟨m2, hx, hA2, hR2, hF2⟩
      | panic ch =>
        simp only [Option.some.injEq, Prod.mk.injEq] at h
        obtain ⟨rfl, rfl, rfl⟩ := h
        cases e <;> first | exact hx.elim | exact ⟨m2, hx, hA2, hR2, hF2⟩
      | goto i => cases e <;> exact hx.elim
      | outgrown => cases e <;> exact hx.elim

theorem flat_fine : ∀ (c : Code), fineCode P c = true → (flatC c).all (fineCode P) = true := by
  intro c
  induction c with
  | seq x y ihx ihy =>
    intro h
    simp only [fineCode, Bool.and_eq_true] at h
    simp only [flatC, List.all_append, Bool.and_eq_true]
    exact ⟨ihx h.1, ihy h.2⟩
  | _ => intro h; simp only [flatC, List.all_cons, List.all_nil, Bool.and_true]; exact h
theorem all_sub {f : Code → Bool} {l : List Code} (h : l.all f = true) (i n : Nat) : ((l.drop i).take n).all f = true := by
  rw [List.all_eq_true] at h ⊢
  exact fun c hc => h c (List.mem_of_mem_drop (List.mem_of_mem_take hc))
theorem all_drop {f : Code → Bool} {l : List Code} (h : l.all f = true) (i : Nat) : (l.drop i).all f = true := by
  rw [List.all_eq_true] at h ⊢
  exact fun c hc => h c (List.mem_of_mem_drop hc)
end

/-! ## from state to state -/
/-- the world, and the frame, are as the state says; below the base nothing has changed -/
def AtS (P : Program) (base : Nat) (w0 : World) (s : St) (a : Act) (w : World) : Prop := ∃ m, ARel m s.act a ∧ Rel P base m s.mem w ∧ RowKit.Below base w0 w

def firstS (P : Program) (run : Code → DAct → Mem → Option Out) (l : List Code) (a : DAct) (M : Mem) (s' : St) : Bool :=
  match dList run l a M with
  | some (.normal, a1, M1) => weakS P.globals.size [] a1 M1 s'
  | _ => false
def stepS (P : Program) (run : Code → DAct → Mem → Option Out) (l : List Code) (s s' : St) : Bool := firstS P run l s.act s.mem s'
/-- the rest of the body is run; it returns v -/
def endS (P : Program) (C : Callers) (run : Code → DAct → Mem → Option Out) (l : List Code) (fn : Func) (v : Value) (a : DAct) (M : Mem) : Bool :=
  match dList run l a M with
  | some (.normal, a1, M1) =>
    match dLeaves P C fn a1 a1.defers .returning M1 with
    | some (.ret v', _) => veqN 6 v' v && flat v
    | _ => false
  | some (.ret, a1, M1) =>
    match dLeaves P C fn a1 a1.defers .returning M1 with
    | some (.ret v', _) => veqN 6 v' v && flat v
    | _ => false
  | _ => false

section
variable {P : Program} {base : Nat} {C : Callers} {K : Nat}

theorem first_wp (hfine : fineProg P = true) (hC : COK P base C) {L : List Code} (hL : L.all (fineCode P) = true) {i n : Nat} {a : DAct} {M : Mem} {s' : St} (h : firstS P (dCode P C (dDraw P C) K) ((L.drop i).take n) a M s' = true)
    {m : Inj} {a' : Act} {w0 w : World} (hA : ARel m a a') (hR : Rel P base m M w) (hb : RowKit.Below base w0 w) {Q : Exit → Act → World → Prop} (hQ : ∀ a1' w1, AtS P base w0 s' a1' w1 → wpL P (L.drop (i + n)) Q a1' w1) :
    wpL P (L.drop i) Q a' w := by
  have _ := hfine
  unfold firstS at h
  split at h
  case h_2 => cases h
  rename_i a1 M1 hd
  have key := dList_ok hC (dDraw_ok hC) _ (all_sub hL i n) hd hA hR
  have e : L.drop i = (L.drop i).take n ++ L.drop (i + n) := by rw [← List.drop_drop, List.take_append_drop]
  rw [e]
  refine wpL_append _ (wpL_mono (fun x a2 w2 ⟨m2, hx, hA2, hR2, hF2⟩ => ?_) _ key)
  cases x <;> first | exact hx.elim | skip
  obtain ⟨m3, _, hA3, hR3⟩ := weakS_ok h hA2 hR2 (by simp)
  exact hQ _ _ ⟨m3, hA3, hR3, hb.trans (hF2.below hR.base)⟩

theorem step_wp (hfine : fineProg P = true) (hC : COK P base C) {L : List Code} (hL : L.all (fineCode P) = true) {i n : Nat} {s s' : St} (h : stepS P (dCode P C (dDraw P C) K) ((L.drop i).take n) s s' = true)
    {a' : Act} {w0 w : World} (hs : AtS P base w0 s a' w) {Q : Exit → Act → World → Prop} (hQ : ∀ a1' w1, AtS P base w0 s' a1' w1 → wpL P (L.drop (i + n)) Q a1' w1) :
    wpL P (L.drop i) Q a' w := by
  obtain ⟨m, hA, hR, hb⟩ := hs
  exact first_wp hfine hC hL h hA hR hb hQ

theorem end_wp (hC : COK P base C) {L : List Code} (hL : L.all (fineCode P) = true) {i : Nat} {fn : Func} {v : Value} {a : DAct} {M : Mem} (h : endS P C (dCode P C (dDraw P C) K) (L.drop i) fn v a M = true)
    {m : Inj} {a' : Act} {w0 w : World} (hA : ARel m a a') (hR : Rel P base m M w) (hb : RowKit.Below base w0 w) : wpL P (L.drop i) (bodyPostD P fn fun e w' => e = .returned v ∧ RowKit.Below base w0 w') a' w := by
  unfold endS at h
  have fin : ∀ {a1 : DAct} {M1 : Mem}, (match dLeaves P C fn a1 a1.defers .returning M1 with
      | some (.ret v', _) => veqN 6 v' v && flat v
      | _ => false) = true → ∀ {m2 : Inj} {a2 : Act} {w2 : World}, ARel m2 a1 a2 → Rel P base m2 M1 w2 → Fr base m m2 M M1 w w2 →
      Leaves P fn a2.tmps (fun e w' => e = .returned v ∧ RowKit.Below base w0 w') a2.defers .returning w2 := by
    intro a1 M1 h m2 a2 w2 hA2 hR2 hF2
    split at h
    case h_2 => cases h
    rename_i v' M2 hl
    simp only [Bool.and_eq_true] at h
    have hv := veqN_eq _ _ _ h.1
    subst hv
    refine dLeaves_ok (u' := .returning) hC hl hA2 hA2.defers trivial hR2 _ fun e w3 ⟨m3, p1, p2, p3⟩ => ?_
    cases e <;> first | exact p1.elim | skip
    have := flat_eq h.2 p1
    rw [this]
    exact ⟨rfl, hb.trans ((hF2.trans p3).below hR.base)⟩
  split at h
  · rename_i a1 M1 hd
    refine wpL_mono (fun x a2 w2 ⟨m2, hx, hA2, hR2, hF2⟩ => ?_) _ (dList_ok hC (dDraw_ok hC) _ (all_drop hL i) hd hA hR)
    cases x <;> first | exact hx.elim | skip
    exact fin h hA2 hR2 hF2
  · rename_i a1 M1 hd
    refine wpL_mono (fun x a2 w2 ⟨m2, hx, hA2, hR2, hF2⟩ => ?_) _ (dList_ok hC (dDraw_ok hC) _ (all_drop hL i) hd hA hR)
    cases x <;> first | exact hx.elim | skip
    exact fin h hA2 hR2 hF2
  · cases h

theorem call_wp {f : FuncId} {fn : Func} {c : Code} (hf : P.funcs[f]? = some fn) (hb : fn.body = some c) {args : Array Value} {w : World} {R : Ending → World → Prop}
    (h : wpL P ((flatC c).drop 0) (bodyPostD P fn R) { tmps := args ++ Array.replicate (fn.ntmps - args.size) undef, defers := [] } w) : Calls P f args w R :=
  calls_of_wp_defers hf hb (wp_flat c h)

/-! ## a call without arguments of which a contract tells what it returns -/
/-- does the memory hold what the listed variables hold? -/
def holdsAll (M : Mem) : List (Nat × AObj) → Bool
  | [] => true
  | p :: l => objEqX (M.get p.1) (some p.2) && holdsAll M l
theorem holdsAll_spec {M : Mem} : ∀ {l : List (Nat × AObj)}, holdsAll M l = true → ∀ p ∈ l, M.get p.1 = some p.2
  | [], _, p, hp => by simp at hp
  | q :: l, h, p, hp => by
    simp only [holdsAll, Bool.and_eq_true] at h
    rcases List.mem_cons.1 hp with rfl | hp
    · exact objEqX_eq h.1
    · exact holdsAll_spec h.2 p hp

/-- the callers, but for one call that returns v and leaves the memory -/
def told (f : FuncId) (v : Value) (l : List (Nat × AObj)) (C : Callers) : Callers :=
  { call := fun g args M => bif Nat.beq g f then (bif args.isEmpty && flat v && holdsAll M l then some (.ret v, M) else none) else C.call g args M
    callD := C.callD }

def globMem (P : Program) (l : List (Nat × AObj)) : Mem := memOf P.globals.size l

theorem rel_same {m : Inj} {M : Mem} {w w' : World} (hR : Rel P base m M w) (hb : RowKit.Below w.heap.size w w') : Rel P base m M w' := by
  obtain ⟨_, _, _, hs, hk⟩ := hb
  refine ⟨hR.low, fun b L o hb hg => ?_, hR.apart, fun b L hb => Nat.lt_of_lt_of_le (hR.live b L hb) hs, hR.fresh, Nat.le_trans hR.base hs, hR.small⟩
  exact (hR.obj b L o hb hg).mono (Inj.le_refl m) (hk _ (hR.live b L hb))
theorem fr_same {m : Inj} {M : Mem} {w w' : World} (hR : Rel P base m M w) (hb : RowKit.Below w.heap.size w w') : Fr base m m M M w w' := by
  obtain ⟨h1, h2, h3, hs, hk⟩ := hb
  have _ := hR
  exact ⟨Inj.le_refl m, h1, h2, h3, hs, fun B hB _ => hk B hB, fun b L h h' => by simp [h] at h', Nat.le_refl _, fun _ _ _ => rfl, fun b L h h' => by simp [h] at h'⟩

/-- what is asked of the contract: from every world in which the variables hold what is listed -/
def Told (P : Program) (f : FuncId) (v : Value) (l : List (Nat × AObj)) : Prop :=
  ∀ w : World, Rel P w.heap.size (globs P) (globMem P l) w → Calls P f #[] w fun e w' => e = .returned v ∧ RowKit.Below w.heap.size w w'

theorem told_ok {f : FuncId} {v : Value} {l : List (Nat × AObj)} (hl : l.all (fun p => Nat.blt p.1 P.globals.size && (match p.2 with
      | .cells c 0 false false true => c.all flat
      | _ => false)) = true) (hsz : P.globals.size ≤ 4294967296) (ht : Told P f v l) (hC : COK P base C) : COK P base (told f v l C) where
  call := by
    intro g args M r M' h m w args' ha hR
    simp only [told, cond_eq_ite, Nat.beq_eq, Bool.and_eq_true] at h
    split at h
    · rename_i hgf
      subst hgf
      split at h
      case isFalse => cases h
      rename_i hc
      obtain ⟨⟨he, hfl⟩, hh⟩ := hc
      cases h
      have hargs : args' = #[] := by
        have : args = #[] := by simpa using he
        subst this
        have hlen := ha.length
        apply Array.eq_empty_of_size_eq_zero
        simpa using hlen
      subst hargs
      have hl' : ∀ p ∈ l, p.1 < P.globals.size ∧ ∃ c, p.2 = .cells c 0 false false true ∧ c.all flat = true := by
        intro p hp
        rw [List.all_eq_true] at hl
        have := hl p hp
        simp only [Bool.and_eq_true, Nat.blt_eq] at this
        refine ⟨this.1, ?_⟩
        have h2 := this.2
        split at h2
        · rename_i c hpc; exact ⟨c, hpc, h2⟩
        · cases h2
      have hR0 : Rel P w.heap.size (globs P) (globMem P l) w := by
        have hgl : ∀ b L, globs P b = some L → b < P.globals.size ∧ L = ⟨b, 0, 0⟩ := by
          intro b L h
          unfold globs at h
          split at h
          · cases h; exact ⟨by assumption, rfl⟩
          · cases h
        have hobj : ∀ b o, (globMem P l).get b = some o → (b, o) ∈ l := fun b o h => memOf_get (fun p hp => by have := (hl' p hp).1; omega) h
        refine ⟨fun g hg => by simp [globs, hg], fun b L o hb hg => ?_, fun b b' L L' _ _ hown _ _ => ?_, fun b L hb => ?_, fun b L hb => (hgl b L hb).1, Nat.le_refl _, hsz⟩
        · obtain ⟨hlt, rfl⟩ := hgl b L hb
          have hm := hobj b o hg
          obtain ⟨_, c, ho, hcf⟩ := hl' _ hm
          simp only at ho
          subst ho
          have hMg := holdsAll_spec hh _ hm
          simp only at hMg
          obtain ⟨cc, e, fz, q1, q2, _, q4, _⟩ := hR.obj b _ _ (hR.low b hlt) hMg
          exact ⟨cc, e, fz, q1, by rw [flats_eq hcf q2]; exact flats_rel hcf, ⟨fun _ => ⟨rfl, fun t ht => by cases ht⟩, fun h => by cases h⟩, (fun _ => Nat.lt_of_lt_of_le (q4 rfl) hR.base), fun h => by cases h⟩
        · obtain ⟨o, ho, hoo⟩ := hown
          obtain ⟨_, c, hc, _⟩ := hl' _ (hobj _ _ ho)
          simp only at hc
          subst hc
          simp [AObj.own] at hoo
        · obtain ⟨hlt, rfl⟩ := hgl b L hb
          exact hR.live b _ (hR.low b hlt)
      refine (ht w hR0).mono fun e w' ⟨he, hb⟩ => ?_
      subst he
      exact ⟨m, flat_rel hfl, rel_same hR hb, fr_same hR hb⟩
    · exact hC.call h ha hR
  callD := fun h => hC.callD h
end
end
end Go.Ab
