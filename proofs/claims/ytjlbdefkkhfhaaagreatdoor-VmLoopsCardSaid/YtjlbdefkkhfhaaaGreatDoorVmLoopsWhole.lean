/- The whole call of VmLoops. -/
import Derived.Test.YtjlbdefkkhfhaaaGreatDoorVmLoopsWalk
namespace Go.Proofs.YtjlbdefkkhfhaaaGreatDoor.vmLoops
open Go Go.Ab Go.RowKit
set_option maxRecDepth 4000
noncomputable section
section
variable {base : Nat}

/-! ### pick -/
theorem picked {n : Int} (h1 : -9223372036854775808 ≤ n) (h2 : n ≤ 9223372036854775807) :
    (n < 0 → 0 ≤ (IntKind.wrap .i64 (0 - (IntKind.wrap .i64 (n + 1)))).tmod 300 ∧ (IntKind.wrap .i64 (0 - (IntKind.wrap .i64 (n + 1)))).tmod 300 < 300) ∧ (0 ≤ n → 0 ≤ n.tmod 300 ∧ n.tmod 300 < 300) := by
  refine ⟨fun h => ?_, fun h => ?_⟩
  · rw [IntWalk.i64_in (n + 1) (by omega), IntWalk.i64_in (0 - (n + 1)) (by omega), IntWalk.rem_in _ _ (by omega)]
    omega
  · rw [IntWalk.rem_in _ _ h]
    omega

theorem pick_calls (hC : COK PP base CC) {n : Int} (h1 : -9223372036854775808 ≤ n) (h2 : n ≤ 9223372036854775807) {m : Inj} {M : Mem} {w : World} (hR : Rel PP base m M w) {args' : Array Value} (ha : VsRel m (#[.int .i64 n, .int .i64 300] : Array Value).toList args'.toList) :
    Calls PP 11 args' w fun e w'' => ∃ m'' v', e = .returned v' ∧ m.le m'' ∧ VRel m'' (.complex .f32 0 300) v' ∧ Rel PP base m'' M w'' ∧ Below base w w'' := by
  have K := pickRuns M n
  refine body_wp fine has11 (args := #[.int .i64 n, .int .i64 300]) ha K.size fun a' hA => ?_
  have hA0 : ARel m (k0 M n).1 a' := hA
  have hR0 : Rel PP base m (k0 M n).2 w := hR
  rw [piShape]
  refine run_to hC fineK0 (t := k1 M n) rfl K.ok1 hA0 hR0 fun m1 a1' w1 hA1 hR1 hF1 => ?_
  have hb1 := hF1.below hR0.base
  refine wp_region_to ?_
  rw [List.range_eq_range', sizeK1]
  refine seg_to (n := 1) (r := 1) hC fineK1 (t := k2 M n) rfl K.ok2 hA1 hR1 fun m2 a2' w2 hA2 hR2 hF2 => ?_
  have hb2 := hb1.trans (hF2.below hR1.base)
  obtain ⟨o1, o2, o3⟩ := opK1_1
  have hrun := lssC_hand (P := PP) o3 (ARel.int_at hA2 (calm_of K.c2) K.i2) w2
  have P := picked h1 h2
  have fin : ∀ {s : DAct × Mem} {z : Int} {m5 : Inj} {a5' : Act} {w5 : World}, backs s M z → 0 ≤ z → z < 300 → ARel m5 s.1 a5' → Rel PP base m5 s.2 w5 → Below base w w5 → m.le m5 →
      Leaves PP (fnOf PP 11) a5'.tmps (fun e w'' => ∃ m'' v', e = .returned v' ∧ m.le m'' ∧ VRel m'' (.complex .f32 0 300) v' ∧ Rel PP base m'' M w'' ∧ Below base w w'') a5'.defers .returning w5 := by
    intro s z m5 a5' w5 hk hz1 hz2 hA5 hR5 hb5 hle5
    unfold backs at hk
    refine dLeaves_ok (u' := .returning) hC hk hA5 hA5.defers trivial hR5 _ fun e w6 ⟨m6, p1, p2, p3⟩ => ?_
    cases e with
    | returned v =>
      have p1' : VRel m6 (.int .i64 z) v := p1
      cases p1'
      exact ⟨m6, _, rfl, Inj.le_trans hle5 p3.le, .aint _ _ _ (.inr (by omega)), p2, hb5.trans (p3.below hR5.base)⟩
    | panicked ch => exact p1.elim
    | outgrown => exact p1.elim
  by_cases hn : n < 0
  · have hv : decide (n < 0) = true := by rw [decide_eq_true_eq]; exact hn
    rw [hv] at hrun
    refine hand_to (r := 0) o1 o2 hA2 hR2 K.c2 K.w2 hrun (.bool true) (t := k3 M n true) rfl fun a3' hA3 hR3 => ?_
    refine ops_end ?_
    refine wp_cond_true (bool_at hA3 (calm_of K.cT) K.tT) ?_
    refine run_to hC fineK2 (t := kT M n) rfl K.okT hA3 hR3 fun m4 a4' w4 hA4 hR4 hF4 => ?_
    have hb4 := hb2.trans (hF4.below hR3.base)
    refine run_to hC fineK3 (t := kTz M n) rfl K.okTz hA4 hR4 fun m5 a5' w5 hA5 hR5 hF5 => ?_
    refine wp_ret ?_
    exact fin (backT M n) (P.1 hn).1 (P.1 hn).2 hA5 hR5 (hb4.trans (hF5.below hR4.base)) (Inj.le_trans hF1.le (Inj.le_trans hF2.le (Inj.le_trans hF4.le hF5.le)))
  · have hv : decide (n < 0) = false := by rw [decide_eq_false_iff_not]; exact hn
    rw [hv] at hrun
    refine hand_to (r := 0) o1 o2 hA2 hR2 K.c2 K.w2 hrun (.bool false) (t := k3 M n false) rfl fun a3' hA3 hR3 => ?_
    refine ops_end ?_
    refine wp_cond_false (bool_at hA3 (calm_of K.cF) K.tF) ?_
    refine wp_skip ?_
    refine run_to hC fineK3 (t := kFz M n) rfl K.okFz hA3 hR3 fun m5 a5' w5 hA5 hR5 hF5 => ?_
    refine wp_ret ?_
    exact fin (backF M n) (P.2 (by omega)).1 (P.2 (by omega)).2 hA5 hR5 (hb2.trans (hF5.below hR3.base)) (Inj.le_trans hF1.le (Inj.le_trans hF2.le hF5.le))

/-! ### the first part -/
theorem begin_wp {b : Bool} {s h : St} {n : Int} (hE : entryS n b s = true) (hZ : (entry n b).map (fun x => x.2.1.tmp 0) = some (.int .i64 n)) (K : Picks s h n) (h1 : -9223372036854775808 ≤ n) (h2 : n ≤ 9223372036854775807) {W : World} (hC : COK PP W.heap.size CC)
    (hS : W.ShapedOpen PP) (hL : laidMet PP Rows.vmLoopsRow.laid W) (hQ : ∀ a1 w1, AtS PP W.heap.size W h a1 w1 → wpL PP ((itemsC PP 5).drop 17) (Fin W.heap.size W) a1 w1) :
    Calls PP 5 #[.int .i64 n, .bool b] W fun e w' => e = .returned (.bool true) ∧ Below W.heap.size W w' := by
  have hR := laid_rel small more hS hL
  refine body_wp fine has5 (args := #[.int .i64 n, .bool b]) (m := globs PP) (.cons (.int _ _) (.cons (.bool _) .nil)) (by kernel_rfl) fun a' hA => ?_
  unfold entryS at hE
  split at hE
  case h_2 => cases hE
  rename_i a1 M1 hd
  simp only [Bool.and_eq_true] at hE
  rw [hd] at hZ
  have hz : a1.tmp 0 = .int .i64 n := by simpa using hZ
  unfold entry at hd
  have key := dList_ok hC (dDraw_ok hC) _ (all_sub (items_fine fine has5) 0 14) hd hA hR
  have e : (itemsC PP 5).drop 0 = ((itemsC PP 5).drop 0).take 14 ++ (itemsC PP 5).drop 14 := by rw [List.drop_zero, List.take_append_drop]
  rw [e]
  refine wpL_append _ (wpL_mono (fun x a2 w2 ⟨m2, hx, hA2, hR2, hF2⟩ => ?_) _ key)
  cases x <;> first | exact hx.elim | skip
  have h0 : a2.tmps.getD 0 undef = .int .i64 n := ARel.int_at hA2 (by simpa using hE.1) hz
  obtain ⟨hAw, hRw⟩ := weakS_only hE.2 hA2 hR2 (fun i hi m' => by
    obtain rfl : i = 0 := by simpa using hi
    rw [h0, K.z0]
    exact .aint _ _ _ (.inl rfl))
  have hb2 := hF2.below hR.base
  show wpL PP ((itemsC PP 5).drop 14) _ _ _
  rw [pickShape]
  refine wp_region_to ?_
  rw [List.range_eq_range', size14]
  have hA0 : ARel (m2.only (keepOf PP.globals.size s.next s.objs)) (p0 s n).1 a2 := by
    unfold p0 byHand
    exact hAw.know (by rw [h0]; exact .int _ _)
  refine seg_to (n := 1) (r := 3) hC fine14 (s := p0 s n) (t := p1 s n) rfl K.ok1 hA0 hRw fun m3 a3' w3 hA3 hR3 hF3 => ?_
  have hb3 := hb2.trans (hF3.below hRw.base)
  obtain ⟨o1, o2, o3⟩ := op14_1
  refine call_to (r := 2) o1 o2 o3 hA3 hR3 K.c1 K.w1 (Mv := (p1 s n).2) (v := .complex .f32 0 300) K.op1 (fun m' args' w' _ ha hR' => pick_calls hC h1 h2 hR' ha) (t := p2 s n) rfl fun m4 a4' w4 _ hA4 hR4 hb4 => ?_
  have hb4 := hb3.trans hb4
  refine seg_to (n := 2) (r := 0) hC fine14 (t := p3 s n) rfl K.ok3 hA4 hR4 fun m5 a5' w5 hA5 hR5 hF5 => ?_
  refine ops_end ?_
  have hb5 := hb4.trans (hF5.below hR4.base)
  exact first_wp fine hC (items_fine fine has5) (i := 15) (n := 2) K.first hA5 hR5 hb5 fun a6 w6 h6 => hQ a6 w6 h6

theorem calls_false {n : Int} (h1 : -9223372036854775808 ≤ n) (h2 : n ≤ 9223372036854775807) {W : World} (hS : W.ShapedOpen PP) (hL : laidMet PP Rows.vmLoopsRow.laid W) :
    Calls PP 5 #[.int .i64 n, .bool false] W fun e w' => e = .returned (.bool true) ∧ Below W.heap.size W w' := by
  have hC := callers W.heap.size
  refine begin_wp (enterF n) (zeroF n) (picksF n) h1 h2 hC hS hL fun a1 w1 hH => ?_
  rw [loopShape]
  refine wp_block (wp_loop_rounds (25 + (25 + (25 + (25 + (25 + (25 + (25 + (25 + 501)))))))) ?_)
  refine iterS_ok hC fineLB roundsF1 hH fun a1 w1 hH => ?_
  refine iterS_ok hC fineLB roundsF2 hH fun a1 w1 hH => ?_
  refine iterS_ok hC fineLB roundsF3 hH fun a1 w1 hH => ?_
  refine iterS_ok hC fineLB roundsF4 hH fun a1 w1 hH => ?_
  refine iterS_ok hC fineLB roundsF5 hH fun a1 w1 hH => ?_
  refine iterS_ok hC fineLB roundsF6 hH fun a1 w1 hH => ?_
  refine iterS_ok hC fineLB roundsF7 hH fun a1 w1 hH => ?_
  refine iterS_ok hC fineLB roundsF8 hH fun a1 w1 hH => ?_
  have hk : ∃ k : Nat, a1.tmps.getD 16 undef = .int .i64 (k : Int) ∧ k < 501 := by
    obtain ⟨m, hA, -, -⟩ := hH
    obtain ⟨k, hk, -, hlt⟩ := ARel.between hA (by simpa using (headsN 0).c0) (by decide) (headsN 0).i0
    exact ⟨k, hk, hlt⟩
  obtain ⟨k, hk, hlt⟩ := hk
  refine loopF_wp hC (fun a2 w2 h2 => three_wp roundF0 roundF1 roundF2 lastF beginsF turnsF turnsF2 hC h2) (fun a2 w2 h2 => ?_) 501 k a1 w1 (by omega) (by omega) hk hH
  simp only [Exit.inBlock, if_true]
  exact h2
theorem calls_true {n : Int} (h1 : -9223372036854775808 ≤ n) (h2 : n ≤ 9223372036854775807) {W : World} (hS : W.ShapedOpen PP) (hL : laidMet PP Rows.vmLoopsRow.laid W) :
    Calls PP 5 #[.int .i64 n, .bool true] W fun e w' => e = .returned (.bool true) ∧ Below W.heap.size W w' := by
  have hC := callers W.heap.size
  refine begin_wp (enterT n) (zeroT n) (picksT n) h1 h2 hC hS hL fun a1 w1 hH => ?_
  rw [loopShape]
  refine wp_block (wp_loop_rounds (5 + 501) ?_)
  refine iterS_ok hC fineLB roundsT hH fun a1 w1 hH => ?_
  have hk : ∃ k : Nat, a1.tmps.getD 16 undef = .int .i64 (k : Int) ∧ k < 501 := by
    obtain ⟨m, hA, -, -⟩ := hH
    obtain ⟨k, hk, -, hlt⟩ := ARel.between hA (by simpa using (heads0 0).c0) (by decide) (heads0 0).i0
    exact ⟨k, hk, hlt⟩
  obtain ⟨k, hk, hlt⟩ := hk
  refine loopT_wp hC (fun a2 w2 h2 => three_wp roundT0 roundT1 roundT2 lastT beginsT turnsT turnsT2 hC h2) (fun a2 w2 h2 => ?_) 501 k a1 w1 (by omega) (by omega) hk (.inl hH)
  simp only [Exit.inBlock, if_true]
  exact h2
end
end
end Go.Proofs.YtjlbdefkkhfhaaaGreatDoor.vmLoops
