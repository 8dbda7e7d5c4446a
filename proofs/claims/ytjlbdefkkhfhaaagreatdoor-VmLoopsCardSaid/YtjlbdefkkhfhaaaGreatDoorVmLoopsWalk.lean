/- The walk of VmLoops: the pieces, joined. -/
import Derived.Test.YtjlbdefkkhfhaaaGreatDoorVmLoopsRun1
import Derived.Test.YtjlbdefkkhfhaaaGreatDoorVmLoopsHand
import Derived.Test.YtjlbdefkkhfhaaaGreatDoorVmLoopsStep
import Derived.Test.YtjlbdefkkhfhaaaGreatDoorVmLoopsF1
import Derived.Test.YtjlbdefkkhfhaaaGreatDoorVmLoopsF2
import Derived.Test.YtjlbdefkkhfhaaaGreatDoorVmLoopsF3
import Derived.Test.YtjlbdefkkhfhaaaGreatDoorVmLoopsF4
import Derived.Test.YtjlbdefkkhfhaaaGreatDoorVmLoopsF5
import Derived.Test.YtjlbdefkkhfhaaaGreatDoorVmLoopsF6
import Derived.Test.YtjlbdefkkhfhaaaGreatDoorVmLoopsF7
import Derived.Test.YtjlbdefkkhfhaaaGreatDoorVmLoopsF8
namespace Go.Proofs.YtjlbdefkkhfhaaaGreatDoor.vmLoops
open Go Go.Ab Go.RowKit
set_option maxRecDepth 4000
noncomputable section
section
variable {base : Nat} {w0 : World}

theorem wrap_next {k : Nat} (h : k < 1073741824) : IntKind.wrap .i64 ((k : Int) + 1) = ((k + 1 : Nat) : Int) := by
  rw [show (k : Int) + 1 = ((k + 1 : Nat) : Int) by omega]
  exact Ab.wrap_small (by omega)

/-! ### the thread that jumps -/
/-- the head of the thread's loop: what was told of is still told of -/
def AtG (base : Nat) (w0 : World) (m0 : Inj) (g : St) (a' : Act) (w : World) : Prop := ∃ m, ARel m g.act a' ∧ Rel PP base m g.mem w ∧ Below base w0 w ∧ m0.le m

theorem sb_of {Q : Exit → Act → World → Prop} {a' : Act} {w : World} (h : wpL PP [.region (regId (nthC SP 0)) R6 false, .cond (.tmp 23) .skip (.exit 0), S7, S12] Q a' w) : SB.wp PP Q a' w := by
  refine wp_flat _ ?_
  have e := spShape
  unfold SP at e
  rw [e]
  exact h

theorem turn_wp {g g' j : St} (T : ∀ k, Turns g g' j k) (hC : COK PP base CC) {m0 : Inj} (hk0 : ∀ b L, m0 b = some L → keepOf PP.globals.size j.next j.objs b = true) {a' : Act} {w : World} (hH : AtG base w0 m0 g a' w) {Q : Exit → Act → World → Prop}
    (hnext : ∀ (k' : Nat) a1 w1, AtG base w0 m0 g' a1 w1 → a1.tmps.getD 22 undef = .int .i64 ((k' + 1 : Nat) : Int) → a'.tmps.getD 22 undef = .int .i64 (k' : Int) → k' < 1000 → Q .normal a1 w1)
    (hlast : ∀ a1 w1, wpL PP ((itemsC PP 13).drop 7) (bodyPostD PP (fnOf PP 13) fun e w' => ∃ m' v', e = .returned v' ∧ m0.le m' ∧ VRel m' ev v' ∧ Rel PP base m' j.mem w' ∧ Below base w0 w') a1 w1 → Q (.exit 0) a1 w1) : SB.wp PP Q a' w := by
  obtain ⟨m, hA, hR, hb, hle⟩ := hH
  obtain ⟨k, hk, -, hlt⟩ := ARel.between hA (by simpa using (T 0).c0) (by decide) (T 0).i0
  have H := T k
  have hA0 : ARel m (q0 g k).1 a' := by
    unfold q0 byHand
    exact hA.know (by rw [hk]; exact .int _ _)
  have hR0 : Rel PP base m (q0 g k).2 w := hR
  refine sb_of ?_
  refine wp_region_to ?_
  rw [List.range_eq_range', size6]
  obtain ⟨o1, o2, o3⟩ := op6_0
  have h22 := ARel.int_at hA0 (calm_of H.d0) H.k0
  have hrun := lssC_hand (P := PP) o3 h22 w
  by_cases hend : k < 1000
  · have hv : decide ((k : Int) < 1000) = true := by rw [decide_eq_true_eq]; omega
    rw [hv] at hrun
    refine hand_to (r := 0) o1 o2 hA0 hR0 H.d0 H.w0 hrun (.bool true) (t := q1 g k) rfl fun a1' hA1 hR1 => ?_
    refine ops_end ?_
    refine wp_cond_true (bool_at hA1 (calm_of H.c1) H.t1) ?_
    refine wp_skip ?_
    refine run_to hC fineS7 (t := q2 g k) rfl H.ok2 hA1 hR1 fun m2 a2' w2 hA2 hR2 hF2 => ?_
    show wpL PP [S12] _ _ _
    refine run_to hC fineS12 (t := q3 g k) rfl H.ok3 hA2 hR2 fun m3 a3' w3 hA3 hR3 hF3 => ?_
    have h223 : a3'.tmps.getD 22 undef = .int .i64 ((k + 1 : Nat) : Int) := by
      rw [ARel.int_at hA3 (calm_of H.c3) H.k3]
      exact congrArg (Value.int .i64) (wrap_next (by omega))
    obtain ⟨hAw, hRw⟩ := weakS_only H.weak hA3 hR3 (fun i hi m' => by
      obtain rfl : i = 22 := by simpa using hi
      rw [h223, H.i3]
      exact .aint _ _ _ (.inr (by omega)))
    refine hnext k a3' w3 ⟨_, hAw, hRw, (hb.trans (hF2.below hR1.base)).trans (hF3.below hR2.base), ?_⟩ h223 hk hend
    exact le_only (Inj.le_trans hle (Inj.le_trans hF2.le hF3.le)) fun b L h => subK_ok H.sub (hk0 b L h)
  · have hv : decide ((k : Int) < 1000) = false := by rw [decide_eq_false_iff_not]; omega
    rw [hv] at hrun
    refine hand_to (r := 0) o1 o2 hA0 hR0 H.d0 H.w0 hrun (.bool false) (t := y1 g k) rfl fun a1' hA1 hR1 => ?_
    refine ops_end ?_
    refine wp_cond_false (bool_at hA1 (calm_of H.c4) H.t4) ?_
    refine wp_exit ?_
    refine hlast _ _ ?_
    exact endM_wp hC (all_drop (items_fine fine has13) 7) H.last hA1 hR1 hb hle hk0

theorem turns_wp {g2 j : St} (T : ∀ k, Turns g2 g2 j k) (hC : COK PP base CC) {m0 : Inj} (hk0 : ∀ b L, m0 b = some L → keepOf PP.globals.size j.next j.objs b = true) {Q : Exit → Act → World → Prop}
    (hlast : ∀ a1 w1, wpL PP ((itemsC PP 13).drop 7) (bodyPostD PP (fnOf PP 13) fun e w' => ∃ m' v', e = .returned v' ∧ m0.le m' ∧ VRel m' ev v' ∧ Rel PP base m' j.mem w' ∧ Below base w0 w') a1 w1 → Q (.exit 0) a1 w1) :
    ∀ (N k : Nat) (a' : Act) (w : World), 1001 ≤ N + k → k ≤ 1000 → a'.tmps.getD 22 undef = .int .i64 (k : Int) → AtG base w0 m0 g2 a' w → Code.rounds PP SB Q N a' w
  | 0, k, a', w, hN, hk, _, _ => by omega
  | N + 1, k, a', w, hN, hk, h22, hH => by
    rw [rounds_succ]
    refine turn_wp T hC hk0 hH (fun k' a1 w1 h h1 h2 h3 => ?_) (fun a1 w1 h => hlast a1 w1 h)
    have : k' = k := by
      rw [h22] at h2
      simp only [Value.int.injEq, true_and] at h2
      omega
    subst this
    exact turns_wp T hC hk0 hlast N (k' + 1) a1 w1 (by omega) (by omega) h1 h

theorem step_calls {args : Array Value} {j g g2 : St} (B : Begins args j g) (T1 : ∀ k, Turns g g2 j k) (T2 : ∀ k, Turns g2 g2 j k) (hC : COK PP base CC) {m0 : Inj} {w : World} (hR : Rel PP base m0 j.mem w) (hk0 : ∀ b L, m0 b = some L → keepOf PP.globals.size j.next j.objs b = true)
    {args' : Array Value} (ha : VsRel m0 args.toList args'.toList) : Calls PP 13 args' w fun e w'' => ∃ m'' v', e = .returned v' ∧ m0.le m'' ∧ VRel m'' ev v' ∧ Rel PP base m'' j.mem w'' ∧ Below base w w'' := by
  refine body_wp fine has13 (args := args) ha B.size fun a' hA => ?_
  have he := B.first
  unfold firstS at he
  split at he
  case h_2 => cases he
  rename_i a1 M1 hd
  have key := dList_ok hC (dDraw_ok hC) _ (all_sub (items_fine fine has13) 0 6) hd hA hR
  have e : (itemsC PP 13).drop 0 = ((itemsC PP 13).drop 0).take 6 ++ (itemsC PP 13).drop 6 := by rw [List.drop_zero, List.take_append_drop]
  rw [e]
  refine wpL_append _ (wpL_mono (fun x a2 w2 ⟨m2, hx, hA2, hR2, hF2⟩ => ?_) _ key)
  cases x <;> first | exact hx.elim | skip
  obtain ⟨hAw, hRw⟩ := weakS_only he hA2 hR2 (by simp)
  show wpL PP ((itemsC PP 13).drop 6) _ _ _
  rw [stepShape]
  refine wp_block (wp_loop_rounds (1001 + 1) ?_)
  rw [rounds_succ]
  have hlast : ∀ a1 w1, wpL PP ((itemsC PP 13).drop 7) (bodyPostD PP (fnOf PP 13) fun e w' => ∃ m' v', e = .returned v' ∧ m0.le m' ∧ VRel m' ev v' ∧ Rel PP base m' j.mem w' ∧ Below base w w') a1 w1 →
      Exit.inBlock 0 (Exit.then (wpL PP ((itemsC PP 13).drop 7) (bodyPostD PP (fnOf PP 13) fun e w' => ∃ m' v', e = .returned v' ∧ m0.le m' ∧ VRel m' ev v' ∧ Rel PP base m' j.mem w' ∧ Below base w w')) (bodyPostD PP (fnOf PP 13) fun e w' => ∃ m' v', e = .returned v' ∧ m0.le m' ∧ VRel m' ev v' ∧ Rel PP base m' j.mem w' ∧ Below base w w')) (.exit 0) a1 w1 := fun a1 w1 h => by
    simp only [Exit.inBlock, if_true]
    exact h
  refine turn_wp T1 hC hk0 (w0 := w) ⟨_, hAw, hRw, hF2.below hR.base, le_only hF2.le fun b L h => subK_ok B.sub (hk0 b L h)⟩ (fun k' a1 w1 h h1 _ h3 => ?_) (fun a1 w1 h => hlast a1 w1 h)
  exact turns_wp T2 hC hk0 hlast 1001 (k' + 1) a1 w1 (by omega) (by omega) h1 h

/-! ### three steps of the thread that jumps -/
/-- at a state of which all that is told of is kept -/
def AtJ (base : Nat) (w0 : World) (j : St) (a' : Act) (w : World) : Prop := ∃ m, ARel m j.act a' ∧ Rel PP base m j.mem w ∧ Below base w0 w ∧ ∀ b L, m b = some L → keepOf PP.globals.size j.next j.objs b = true

theorem lb2_of {Q : Exit → Act → World → Prop} {a' : Act} {w : World} (h : wpL PP [C30, .cond (.tmp 132) .skip (.exit 2), .block 3 (inner (nthC LP2 2)), C31] Q a' w) : LB2.wp PP Q a' w := by
  refine wp_flat _ ?_
  have e := lp2Shape
  unfold LP2 at e
  rw [e]
  exact h

theorem round_wp {args : Array Value} {j0 j j' g g2 : St} (D : Rounds args j0 j j') (B : Begins args j0 g) (T1 : ∀ k, Turns g g2 j0 k) (T2 : ∀ k, Turns g2 g2 j0 k) (hC : COK PP base CC) {a' : Act} {w : World} (hH : AtJ base w0 j a' w) {Q : Exit → Act → World → Prop}
    (hQ : ∀ a1 w1, AtJ base w0 j' a1 w1 → Q .normal a1 w1) : LB2.wp PP Q a' w := by
  obtain ⟨m, hA, hR, hb, hk⟩ := hH
  have hmem : j.mem = j0.mem := by unfold St.mem; rw [D.same.1, D.same.2]
  refine lb2_of ?_
  refine run_to hC fine30 (s := (j.act, j.mem)) (t := u1 j) rfl D.ok1 hA hR fun m1 a1' w1 hA1 hR1 hF1 => ?_
  have hb1 := hb.trans (hF1.below hR.base)
  have hk1 := keeps_on hF1 hR1 D.n1 hk
  refine wp_cond_true (bool_at hA1 (calm_of D.c1) D.t1) ?_
  refine wp_skip ?_
  refine wp_block ?_
  refine wp_flat _ ?_
  have eB := b3Shape
  unfold B3 at eB
  rw [eB]
  refine wp_region_to ?_
  rw [List.range_eq_range', size32]
  refine seg_to (n := 3) (r := 3) hC fine32 (t := u2 j) rfl D.ok2 hA1 hR1 fun m2 a2' w2 hA2 hR2 hF2 => ?_
  have hb2 := hb1.trans (hF2.below hR1.base)
  have hk2 := keeps_on hF2 hR2 (by rw [D.n2, D.n1]) hk1
  obtain ⟨o1, o2, o3⟩ := op32_3
  refine call_to (r := 2) o1 o2 o3 hA2 hR2 D.c2 D.w2 (Mv := j.mem) (v := ev) D.op2 (fun m' args' w' hF' ha hR' => ?_) (t := u3 j) rfl fun m3 a3' w3 hle3 hA3 hR3 hb3 => ?_
  · have hk' := keeps_on hF' hR' (by rw [D.n2]) hk2
    rw [hmem] at hR' ⊢
    have hk0 : ∀ b L, m' b = some L → keepOf PP.globals.size j0.next j0.objs b = true := by rw [← D.same.1, ← D.same.2]; exact hk'
    exact step_calls B T1 T2 hC hR' hk0 ha
  have hb3 := hb2.trans hb3
  refine seg_to (n := 2) (r := 0) hC fine32 (t := u4 j) rfl D.ok4 hA3 hR3 fun m4 a4' w4 hA4 hR4 hF4 => ?_
  refine ops_end ?_
  have hb4 := hb3.trans (hF4.below hR3.base)
  refine run_to hC fine33 (t := u5 j) rfl D.ok5 hA4 hR4 fun m5 a5' w5 hA5 hR5 hF5 => ?_
  have hb5 := hb4.trans (hF5.below hR4.base)
  refine wp_cond_false (bool_at hA5 (calm_of D.c5) D.t5) ?_
  refine wp_skip ?_
  show wpL PP [C31] _ _ _
  refine run_to hC fine31 (t := u6 j) rfl D.ok6 hA5 hR5 fun m6 a6' w6 hA6 hR6 hF6 => ?_
  have hb6 := hb5.trans (hF6.below hR5.base)
  obtain ⟨hAw, hRw⟩ := weakS_only D.weak hA6 hR6 (by simp)
  exact hQ _ _ ⟨_, hAw, hRw, hb6, only_keeps⟩

theorem last_wp {j : St} (D : Lasts j) (hC : COK PP base CC) {a' : Act} {w : World} (hH : AtJ base w0 j a' w) {Q : Exit → Act → World → Prop}
    (hQ : ∀ a1 w1, wpL PP ((itemsC PP 5).drop 27) (bodyPostD PP (fnOf PP 5) fun e w' => e = .returned (.bool true) ∧ Below base w0 w') a1 w1 → Q (.exit 2) a1 w1) : LB2.wp PP Q a' w := by
  obtain ⟨m, hA, hR, hb, hk⟩ := hH
  refine lb2_of ?_
  refine run_to hC fine30 (s := (j.act, j.mem)) (t := u1 j) rfl D.ok1 hA hR fun m1 a1' w1 hA1 hR1 hF1 => ?_
  have hb1 := hb.trans (hF1.below hR.base)
  refine wp_cond_false (bool_at hA1 (calm_of D.c1) D.t1) ?_
  refine wp_exit ?_
  exact hQ _ _ (end_wp (C := CC) (K := 1000) hC (items_fine fine has5) (i := 27) D.last hA1 hR1 hb1)

theorem three_wp {args : Array Value} {j0 j1 j2 j3 g g2 : St} (D0 : Rounds args j0 j0 j1) (D1 : Rounds args j0 j1 j2) (D2 : Rounds args j0 j2 j3) (D3 : Lasts j3) (B : Begins args j0 g) (T1 : ∀ k, Turns g g2 j0 k) (T2 : ∀ k, Turns g2 g2 j0 k) (hC : COK PP base CC)
    {a' : Act} {w : World} (hH : AtJ base w0 j0 a' w) : wpL PP ((itemsC PP 5).drop 26) (bodyPostD PP (fnOf PP 5) fun e w' => e = .returned (.bool true) ∧ Below base w0 w') a' w := by
  rw [loop2Shape]
  refine wp_block (wp_loop_rounds 4 ?_)
  rw [rounds_succ]
  refine round_wp D0 B T1 T2 hC hH fun a1 w1 h1 => ?_
  show Code.rounds PP LB2 _ 3 a1 w1
  rw [rounds_succ]
  refine round_wp D1 B T1 T2 hC h1 fun a2 w2 h2 => ?_
  show Code.rounds PP LB2 _ 2 a2 w2
  rw [rounds_succ]
  refine round_wp D2 B T1 T2 hC h2 fun a3 w3 h3 => ?_
  show Code.rounds PP LB2 _ 1 a3 w3
  rw [rounds_succ]
  refine last_wp D3 hC h3 fun a4 w4 h4 => ?_
  simp only [Exit.then, Exit.inBlock, if_true]
  exact h4

/-! ### the rounds whose number is open -/
theorem first_J {a : DAct} {M : Mem} {j : St} (h : firstS PP (dCode PP CC (dDraw PP CC) 1000) (((itemsC PP 5).drop 18).take 8) a M j = true) (hC : COK PP base CC)
    {m : Inj} {a' : Act} {w : World} (hA : ARel m a a') (hR : Rel PP base m M w) (hb : Below base w0 w) {Q : Exit → Act → World → Prop} (hQ : ∀ a1' w1, AtJ base w0 j a1' w1 → wpL PP ((itemsC PP 5).drop 26) Q a1' w1) : wpL PP ((itemsC PP 5).drop 18) Q a' w := by
  unfold firstS at h
  split at h
  case h_2 => cases h
  rename_i a1 M1 hd
  have key := dList_ok hC (dDraw_ok hC) _ (all_sub (items_fine fine has5) 18 8) hd hA hR
  have e : (itemsC PP 5).drop 18 = ((itemsC PP 5).drop 18).take 8 ++ (itemsC PP 5).drop 26 := by rw [show 26 = 18 + 8 from rfl, ← List.drop_drop, List.take_append_drop]
  rw [e]
  refine wpL_append _ (wpL_mono (fun x a2 w2 ⟨m2, hx, hA2, hR2, hF2⟩ => ?_) _ key)
  cases x <;> first | exact hx.elim | skip
  obtain ⟨hAw, hRw⟩ := weakS_only h hA2 hR2 (by simp)
  exact hQ _ _ ⟨_, hAw, hRw, hb.trans (hF2.below hR.base), only_keeps⟩

/-- the rest of the call -/
abbrev Fin (base : Nat) (w0 : World) : Exit → Act → World → Prop := bodyPostD PP (fnOf PP 5) fun e w' => e = .returned (.bool true) ∧ Below base w0 w'

theorem lb_of {Q : Exit → Act → World → Prop} {a' : Act} {w : World} (h : wpL PP [.region (regId (nthC LP 0)) R17 false, .cond (.tmp 70) .skip (.exit 0), C19, C18] Q a' w) : LB.wp PP Q a' w := by
  refine wp_flat _ ?_
  have e := lpShape
  unfold LP at e
  rw [e]
  exact h

theorem loop_wp {s s' j : St} (Hs : ∀ k, Heads s k) (G : ∀ k, Goes s s' k) (E : ∀ k, Ends s j k) (hC : COK PP base CC) (hj : ∀ a1 w1, AtJ base w0 j a1 w1 → wpL PP ((itemsC PP 5).drop 26) (Fin base w0) a1 w1) {a' : Act} {w : World} (hH : AtS PP base w0 s a' w) {Q : Exit → Act → World → Prop}
    (hnext : ∀ (k : Nat) a1 w1, AtS PP base w0 s' a1 w1 → a'.tmps.getD 16 undef = .int .i64 (k : Int) → a1.tmps.getD 16 undef = .int .i64 ((k + 1 : Nat) : Int) → k < 500 → Q .normal a1 w1)
    (hlast : ∀ a1 w1, wpL PP ((itemsC PP 5).drop 18) (Fin base w0) a1 w1 → Q (.exit 0) a1 w1) : LB.wp PP Q a' w := by
  obtain ⟨m, hA, hR, hb⟩ := hH
  obtain ⟨k, hk, -, hlt⟩ := ARel.between hA (by simpa using (Hs 0).c0) (by decide) (Hs 0).i0
  have H := Hs k
  have hA0 : ARel m (a0 s k).1 a' := by
    unfold a0 byHand
    exact hA.know (by rw [hk]; exact .int _ _)
  have hR0 : Rel PP base m (a0 s k).2 w := hR
  refine lb_of ?_
  refine wp_region_to ?_
  rw [List.range_eq_range', size17]
  refine seg_to (n := 2) (r := 1) hC fine17 (t := a1 s k) rfl H.ok1 hA0 hR0 fun m1 a1' w1 hA1 hR1 hF1 => ?_
  have hb1 := hb.trans (hF1.below hR0.base)
  obtain ⟨o1, o2, o3⟩ := op17_2
  have h68 := ARel.int_at hA1 (calm_of H.c1) H.k1
  obtain ⟨r, h69, hr1, hr2⟩ := ARel.between hA1 (calm_of H.c1) (by decide) H.r1
  have hrun := lss_hand (P := PP) o3 h68 h69 w1
  by_cases hend : k < r
  · have hv : decide ((k : Int) < (r : Int)) = true := by rw [decide_eq_true_eq]; omega
    rw [hv] at hrun
    have D := G k
    refine hand_to (r := 0) o1 o2 hA1 hR1 H.c1 H.w1 hrun (.bool true) (t := a2 s k) rfl fun a2' hA2 hR2 => ?_
    refine ops_end ?_
    refine wp_cond_true (bool_at hA2 (calm_of D.c2) D.t2) ?_
    refine wp_skip ?_
    refine run_to hC fine19 (t := a3 s k) rfl D.ok3 hA2 hR2 fun m3 a3' w3 hA3 hR3 hF3 => ?_
    have hb3 := hb1.trans (hF3.below hR2.base)
    show wpL PP [C18] _ _ _
    refine run_to hC fine18 (t := a4 s k) rfl D.ok4 hA3 hR3 fun m4 a4' w4 hA4 hR4 hF4 => ?_
    have hb4 := hb3.trans (hF4.below hR3.base)
    have h16 : a4'.tmps.getD 16 undef = .int .i64 ((k + 1 : Nat) : Int) := by
      rw [ARel.int_at hA4 (calm_of D.c4) D.k4]
      exact congrArg (Value.int .i64) (wrap_next (by omega))
    obtain ⟨hAw, hRw⟩ := weakS_only D.weak hA4 hR4 (fun i hi m' => by
      obtain rfl : i = 16 := by simpa using hi
      rw [h16, D.i4]
      exact .aint _ _ _ (.inr (by omega)))
    exact hnext k _ _ ⟨_, hAw, hRw, hb4⟩ hk h16 (by omega)
  · have hv : decide ((k : Int) < (r : Int)) = false := by rw [decide_eq_false_iff_not]; omega
    rw [hv] at hrun
    have D := E k
    refine hand_to (r := 0) o1 o2 hA1 hR1 H.c1 H.w1 hrun (.bool false) (t := x2 s k) rfl fun a2' hA2 hR2 => ?_
    refine ops_end ?_
    refine wp_cond_false (bool_at hA2 (calm_of D.c2) D.t2) ?_
    refine wp_exit ?_
    exact hlast _ _ (first_J D.first hC hA2 hR2 hb1 hj)

theorem int_eq {x : Value} {k k' : Nat} (h : x = .int .i64 (k : Int)) (h' : x = .int .i64 (k' : Int)) : k' = k := by
  rw [h] at h'
  simp only [Value.int.injEq, true_and] at h'
  omega

theorem loopF_wp (hC : COK PP base CC) (hj : ∀ a1 w1, AtJ base w0 jf a1 w1 → wpL PP ((itemsC PP 5).drop 26) (Fin base w0) a1 w1) {Q : Exit → Act → World → Prop} (hlast : ∀ a1 w1, wpL PP ((itemsC PP 5).drop 18) (Fin base w0) a1 w1 → Q (.exit 0) a1 w1) :
    ∀ (N k : Nat) (a' : Act) (w : World), 501 ≤ N + k → k ≤ 500 → a'.tmps.getD 16 undef = .int .i64 (k : Int) → AtS PP base w0 n200 a' w → Code.rounds PP LB Q N a' w
  | 0, k, _, _, hN, hk, _, _ => by omega
  | N + 1, k, a', w, hN, hk, h16, hH => by
    rw [rounds_succ]
    refine loop_wp headsN goesN endsN hC hj hH (fun k' a1 w1 h h1 h2 h3 => ?_) (fun a1 w1 h => hlast a1 w1 h)
    obtain rfl := int_eq h16 h1
    exact loopF_wp hC hj hlast N (k' + 1) a1 w1 (by omega) (by omega) h2 h
theorem loopT_wp (hC : COK PP base CC) (hj : ∀ a1 w1, AtJ base w0 jt a1 w1 → wpL PP ((itemsC PP 5).drop 26) (Fin base w0) a1 w1) {Q : Exit → Act → World → Prop} (hlast : ∀ a1 w1, wpL PP ((itemsC PP 5).drop 18) (Fin base w0) a1 w1 → Q (.exit 0) a1 w1) :
    ∀ (N k : Nat) (a' : Act) (w : World), 501 ≤ N + k → k ≤ 500 → a'.tmps.getD 16 undef = .int .i64 (k : Int) → (AtS PP base w0 t0 a' w ∨ AtS PP base w0 t1 a' w ∨ AtS PP base w0 t2 a' w) → Code.rounds PP LB Q N a' w
  | 0, k, _, _, hN, hk, _, _ => by omega
  | N + 1, k, a', w, hN, hk, h16, hH => by
    rw [rounds_succ]
    rcases hH with hH | hH | hH
    · refine loop_wp heads0 goes0 ends0 hC hj hH (fun k' a1 w1 h h1 h2 h3 => ?_) (fun a1 w1 h => hlast a1 w1 h)
      obtain rfl := int_eq h16 h1
      exact loopT_wp hC hj hlast N (k' + 1) a1 w1 (by omega) (by omega) h2 (.inr (.inl h))
    · refine loop_wp heads1 goes1 ends1 hC hj hH (fun k' a1 w1 h h1 h2 h3 => ?_) (fun a1 w1 h => hlast a1 w1 h)
      obtain rfl := int_eq h16 h1
      exact loopT_wp hC hj hlast N (k' + 1) a1 w1 (by omega) (by omega) h2 (.inr (.inr h))
    · refine loop_wp heads2 goes2 ends2 hC hj hH (fun k' a1 w1 h h1 h2 h3 => ?_) (fun a1 w1 h => hlast a1 w1 h)
      obtain rfl := int_eq h16 h1
      exact loopT_wp hC hj hlast N (k' + 1) a1 w1 (by omega) (by omega) h2 (.inl h)
end
end
end Go.Proofs.YtjlbdefkkhfhaaaGreatDoor.vmLoops
