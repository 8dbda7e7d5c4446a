/- OnceFuture's loop: round by round; the words that came in, named as they are read. -/
import Derived.Test.YtmmfohfjmmomfaaGreatDoorOnceFutureRun
namespace Go.Proofs.YtmmfohfjmmomfaaGreatDoor.onceFuture
open Go Go.Ab Go.RowKit
set_option maxRecDepth 4000
noncomputable section

theorem callers (base : Nat) : COK PP base CW := works_callers base

theorem wrap_small {k : Nat} (h : k < 1000) : IntKind.wrap .i64 ((k : Int) + 1) = ((k + 1 : Nat) : Int) := by
  rw [show (k : Int) + 1 = ((k + 1 : Nat) : Int) by omega]
  exact Ab.wrap_small (by omega)

theorem byHand_junk {s : DAct × Mem} {i : Nat} {v : Value} : (byHand s i v).1.junk = s.1.junk := put_junk _ _ _

section
variable {base : Nat} {w0 : World} {L : Ab.Loc} {x : Nat → Nat}
/-- what came in: the words' cells -/
structure Came (base : Nat) (w0 : World) (L : Ab.Loc) (x : Nat → Nat) : Prop where
  below : 0 < L.extra → L.block < base
  cells : 0 < L.extra → ∃ cc e fz, w0.heap[L.block]? = some (.cells cc e fz) ∧ ∀ i, i < L.extra → cc[L.off + i]? = some (.int .u64 (x i : Int))
  base : base ≤ w0.heap.size

/-- the loop's head in round k -/
def Head (base : Nat) (w0 : World) (L : Ab.Loc) (s : St) (y b : Nat) (old : Bool) (k : Nat) (a' : Act) (w : World) : Prop :=
  ∃ m, ARel m s.act a' ∧ Rel PP base m s.mem w ∧ Below base w0 w ∧ m 3 = some L ∧ a'.tmps.getD 6 undef = .int .i64 (k : Int) ∧ m y = none ∧ m b = none ∧ (old = true → m 5 = some ⟨L.block, L.off, 0⟩)

theorem head_k {s : St} {M : Mem} {m : Inj} {a' : Act} {k : Nat} (hA : ARel m s.act a') (h6 : a'.tmps.getD 6 undef = .int .i64 (k : Int)) : ARel m (a0 s M k).1 a' := by
  unfold a0 byHand
  exact hA.know (by rw [h6]; exact .int _ _)

theorem calm_of {s : DAct × Mem} (h : calmA s = true) : s.1.junk = [] := by simpa using h

theorem seg_to (hC : COK PP base CW) {ops : Array Oper} (hfine : ops.toList.all (fineOper PP) = true) {k n r : Nat} {s t : DAct × Mem} (ht : t = segD PP CW ops k n s) (h : segOK PP CW ops k n s = true) {m : Inj} {w : World} {a' : Act} (hA : ARel m s.1 a') (hR : Rel PP base m s.2 w)
    {Q : Exit → Act → World → Prop} (hQ : ∀ m' a1' w1, ARel m' t.1 a1' → Rel PP base m' t.2 w1 → Fr base m m' s.2 t.2 w w1 → OpsTo PP ops Q (List.range' (k + n) r) a1' w1) :
    OpsTo PP ops Q (List.range' k (n + r)) a' w := by
  subst ht
  exact seg_wp hC hfine h hA hR hQ
theorem run_to (hC : COK PP base CW) {c : Code} (hf : fineCode PP c = true) {s t : DAct × Mem} (ht : t = runD PP CW c s) (h : runOK PP CW c s = true) {m : Inj} {w : World} {a' : Act} (hA : ARel m s.1 a') (hR : Rel PP base m s.2 w)
    {Q : Exit → Act → World → Prop} (hQ : ∀ m' a1' w1, ARel m' t.1 a1' → Rel PP base m' t.2 w1 → Fr base m m' s.2 t.2 w w1 → Q .normal a1' w1) : c.wp PP Q a' w := by
  subst ht
  exact run_wp hC hf h hA hR hQ

theorem hand_to {ops : Array Oper} {k r : Nat} {o : Oper} (ho : ops[k]? = some o) {i : Nat} (hd : o.dst = some i) {s : DAct × Mem} {a' : Act} {m : Inj} {w : World} (hA : ARel m s.1 a') (hR : Rel PP base m s.2 w) (hj : calmA s = true) (hw : wantedD ops s.1 o = true) {v v' : Value}
    (hrun : (execOp a'.eval o).run PP w = .ok (.value v') w) (hv : VRel m v v') {Q : Exit → Act → World → Prop} {t : DAct × Mem} (ht : t = byHand s i v) (hQ : ∀ a1', ARel m t.1 a1' → Rel PP base m t.2 w → OpsTo PP ops Q (List.range' (k + 1) r) a1' w) :
    OpsTo PP ops Q (List.range' k (1 + r)) a' w := by
  subst ht
  refine hand_wp ho hA (by simpa using hj) hw hrun hv fun a1' h1 _ => ?_
  rw [hd] at h1
  exact hQ a1' h1 hR

/-- the head's region, up to the first comparison -/
theorem heads_wp {s : St} {M : Mem} {k : Nat} (H : Heads s M k) (hC : COK PP base CW) {m : Inj} {w : World} {a' : Act} (hA : ARel m (a0 s M k).1 a') (hR : Rel PP base m M w) (hL : m 3 = some L) {Q : Exit → Act → World → Prop}
    (hQ : ∀ m1 a1' w1 v, v = decide ((k : Int) < (L.extra : Int)) → Fr base m m1 M (a1 s M k).2 w w1 → ARel m1 (byHand (a1 s M k) 29 (.bool v)).1 a1' → Rel PP base m1 (a1 s M k).2 w1 → OpsTo PP R7 Q (List.range' 4 4) a1' w1) :
    OpsTo PP R7 Q (List.range' 0 8) a' w := by
  refine seg_to (n := 3) (r := 5) hC fine7 (s := a0 s M k) (t := a1 s M k) rfl H.ok1 hA hR fun m1 a1' w1 hA1 hR1 hF1 => ?_
  obtain ⟨o1, o2, o3⟩ := op7_3
  have hj := calm_of H.c1
  have h26 := ARel.int_at hA1 hj H.k1
  have h28 := ARel.len_at hA1 hj H.n1 (hF1.le _ _ hL)
  refine hand_wp (r := 4) o1 hA1 hj H.w1 (lss_hand o3 h26 h28 w1) (.bool _) fun a2' hA2 _ => ?_
  rw [o2] at hA2
  exact hQ m1 a2' w1 _ rfl hF1 hA2 hR1

/-- and on, up to the second -/
theorem heads_wp2 {s : St} {M : Mem} {k : Nat} (H : Heads s M k) (hC : COK PP base CW) {m1 : Inj} {w1 : World} {a1' : Act} (hA1 : ARel m1 (byHand (a1 s M k) 29 (.bool true)).1 a1') (hR1 : Rel PP base m1 (a1 s M k).2 w1) {Q : Exit → Act → World → Prop}
    (hQ : ∀ m2 a2' w2 v, v = decide ((k : Int) < 1000) → Fr base m1 m2 (a1 s M k).2 (a2 s M k).2 w1 w2 → ARel m2 (byHand (a2 s M k) 32 (.bool v)).1 a2' → Rel PP base m2 (a2 s M k).2 w2 → OpsTo PP R7 Q (List.range' 7 1) a2' w2) :
    OpsTo PP R7 Q (List.range' 4 4) a1' w1 := by
  refine seg_to (n := 2) (r := 2) hC fine7 (s := byHand (a1 s M k) 29 (.bool true)) (t := a2 s M k) rfl H.ok2 hA1 hR1 fun m2 a2' w2 hA2 hR2 hF2 => ?_
  obtain ⟨o1, o2, o3⟩ := op7_6
  have hj := calm_of H.c2
  have h31 := ARel.int_at hA2 hj H.k2
  refine hand_wp (r := 1) o1 hA2 hj H.w2 (lssC_hand o3 h31 w2) (.bool _) fun a3' hA3 _ => ?_
  rw [o2] at hA3
  exact hQ m2 a3' w2 _ rfl hF2 hA3 hR2

theorem bool_at {m : Inj} {a : DAct} {a' : Act} (h : ARel m a a') (hj : a.junk = []) {i : Nat} {b : Bool} (ht : a.tmp i = .bool b) : a'.eval (.tmp i) = .bool b := by
  have := h.tmp i (by rw [hj]; simp)
  rw [ht] at this
  show a'.tmps.getD i undef = _
  generalize a'.tmps.getD i undef = v at this
  cases this; rfl

/-- what the loop's body does in the round -/
abbrev Body (Q : Exit → Act → World → Prop) (a' : Act) (w : World) : Prop := (inner (inner (nthC (itemsC PP 4) 7))).wp PP Q a' w

theorem body_of {Q : Exit → Act → World → Prop} {a' : Act} {w : World} (h : wpL PP [.region (regId (nthC LP 0)) R7 false, .cond (.tmp 33) .skip (.exit 0), .block 1 (inner (nthC LP 2)), C8] Q a' w) : Body Q a' w := by
  refine wp_flat _ ?_
  have e := lpShape
  unfold LP at e
  rw [e]
  exact h

/-- the rest of the call, once the loop is left -/
abbrev Rest (R : Ending → World → Prop) (a' : Act) (w : World) : Prop := wpL PP ((itemsC PP 4).drop 8) (bodyPostD PP (fnOf PP 4) R) a' w

theorem ends_wp {s : St} {y b k : Nat} {old : Bool} (E : Ends s k) (hC : COK PP base CW) {a' : Act} {w : World} (hH : Head base w0 L s y b old k a' w) (hend : ¬ (k < L.extra ∧ k < 1000)) {Q : Exit → Act → World → Prop}
    (hQ : ∀ a1 w1, Rest (fun e w' => e = .returned (.bool true) ∧ Below base w0 w') a1 w1 → Q (.exit 0) a1 w1) : Body Q a' w := by
  obtain ⟨m, hA, hR, hb, hL, h6, -, -, -⟩ := hH
  refine body_of ?_
  refine wp_region_to ?_
  rw [List.range_eq_range', size7]
  refine heads_wp E.head hC (head_k hA h6) hR hL fun m1 a1' w1 v hv hF1 hA1 hR1 => ?_
  have hb1 := hb.trans (hF1.below hR.base)
  cases v with
  | false =>
    refine seg_to (n := 4) (r := 0) hC fine7 (s := byHand (a1 s s.mem k) 29 (.bool false)) (t := x1 s s.mem k) rfl E.ok3 hA1 hR1 fun m2 a2' w2 hA2 hR2 hF2 => ?_
    refine ops_end ?_
    have hb2 := hb1.trans (hF2.below hR1.base)
    refine wp_cond_false (bool_at hA2 (calm_of E.c3) E.t3) ?_
    refine wp_exit ?_
    exact hQ _ _ (end_wp (C := CW) (K := 1000) hC (L := itemsC PP 4) (items_fine fine has4) (i := 8) (fn := fnOf PP 4) (v := .bool true) (a := (x1 s s.mem k).1) (M := (x1 s s.mem k).2) E.r3 hA2 hR2 hb2)
  | true =>
    have hlt : k < L.extra := by have := of_decide_eq_true hv.symm; omega
    refine heads_wp2 E.head hC hA1 hR1 fun m2 a2' w2 v2 hv2 hF2 hA2 hR2 => ?_
    have hb2 := hb1.trans (hF2.below hR1.base)
    have : v2 = false := by
      rw [hv2, decide_eq_false_iff_not]; omega
    subst this
    refine seg_to (n := 1) (r := 0) hC fine7 (s := byHand (a2 s s.mem k) 32 (.bool false)) (t := x2 s s.mem k) rfl E.ok4 hA2 hR2 fun m3 a3' w3 hA3 hR3 hF3 => ?_
    refine ops_end ?_
    have hb3 := hb2.trans (hF3.below hR2.base)
    refine wp_cond_false (bool_at hA3 (calm_of E.c4) E.t4) ?_
    refine wp_exit ?_
    exact hQ _ _ (end_wp (C := CW) (K := 1000) hC (L := itemsC PP 4) (items_fine fine has4) (i := 8) (fn := fnOf PP 4) (v := .bool true) (a := (x2 s s.mem k).1) (M := (x2 s s.mem k).2) E.r4 hA3 hR3 hb3)

/-- the next word is named -/
theorem told_of (hW : Came base w0 L x) {s : St} {m : Inj} {w : World} {y b k : Nat} (hR : Rel PP base m s.mem w) (hb : Below base w0 w) (hy : m y = none) (hbn : m b = none) (hyb : y ≠ b) (hy2 : y < s.mem.next) (hb2 : b < s.mem.next) (hk : k < L.extra) :
    ∃ m', m.le m' ∧ Rel PP base m' (toldM s y b) w ∧ m' b = some ⟨L.block, L.off + k, 0⟩ := by
  have hpos : 0 < L.extra := by omega
  obtain ⟨cc, e, fz, hh, hc⟩ := hW.cells hpos
  have hbl := hW.below hpos
  have hh' : w.heap[L.block]? = some (.cells cc e fz) := by rw [hb.block _ hbl]; exact hh
  have hlive : L.block < w.heap.size := (Array.getElem?_eq_some_iff.1 hh').1
  have h1 : Rel PP base (m.set y ⟨L.block, x k, 0⟩) (s.mem.put y .dead) w := hR.symbol hy hy2 (L := ⟨L.block, x k, 0⟩) hlive
  have hb1 : (m.set y ⟨L.block, x k, 0⟩) b = none := by rw [Inj.set_ne _ _ (Ne.symm hyb)]; exact hbn
  refine ⟨(m.set y ⟨L.block, x k, 0⟩).set b ⟨L.block, L.off + k, 0⟩, Inj.le_trans (Inj.le_set _ hy) (Inj.le_set _ hb1), ?_, Inj.set_same _ _ _⟩
  refine h1.tell (L := ⟨L.block, L.off + k, 0⟩) hb1 hb2 rfl hh' hbl ?_
  have hv := hc k hk
  have : Ab.seg cc (L.off + k) 1 = [.int .u64 (x k : Int)] := by
    obtain ⟨hlt, he⟩ := Array.getElem?_eq_some_iff.1 hv
    unfold Ab.seg
    rw [List.drop_eq_getElem_cons (by simpa using hlt), List.take_succ_cons, List.take_zero, Array.getElem_toList, he]
  show VsRel _ [_] (Ab.seg cc (L.off + k) 1)
  rw [this]
  refine .cons ?_ .nil
  have := VRel.sym (m := (m.set y ⟨L.block, x k, 0⟩).set b ⟨L.block, L.off + k, 0⟩) (b := y) (L := ⟨L.block, x k, 0⟩) (by rw [Inj.set_ne _ _ hyb, Inj.set_same])
  exact this

theorem slice_of {m : Inj} {a : DAct} {a' : Act} (hA : ARel m a a') (hj : a.junk = []) {i : Nat} (ht : a.tmp i = .complex .f64 2 3) (hL : m 3 = some L) (hn : 0 < L.extra) : ∃ c, a'.tmps.getD i undef = .slice (some ⟨L.block, L.off, none⟩) L.extra c := hA.slice_at hj ht hL hn

set_option maxHeartbeats 400000 in
theorem goes_wp (hW : Came base w0 L x) {s s' : St} {y b k : Nat} {old z : Bool} (G : Goes s s' (toldM s y b) k b z) (hC : COK PP base CW) {a' : Act} {w : World} (hH : Head base w0 L s y b old k a' w)
    (hyb : y ≠ b) (hy2 : y < s.mem.next) (hb2 : b < s.mem.next) (hz : z = decide ((k : Int) = 0)) (h5 : old = true ∨ (b = 5 ∧ k = 0)) (hk : k < L.extra) (hk2 : k < 1000)
    (hkeep : keepOf PP.globals.size s'.next s'.objs 3 = true ∧ keepOf PP.globals.size s'.next s'.objs 5 = true ∧ keepOf PP.globals.size s'.next s'.objs 6 = false ∧ keepOf PP.globals.size s'.next s'.objs 7 = false)
    {Q : Exit → Act → World → Prop} (hQ : ∀ a1 w1, Head base w0 L s' 6 7 true (k + 1) a1 w1 → Q .normal a1 w1) : Body Q a' w := by
  obtain ⟨m, hA, hR, hb, hL, h6, hyn, hbn, hold⟩ := hH
  obtain ⟨mt, hle, hRt, hbt⟩ := told_of hW hR hb hyn hbn hyb hy2 hb2 hk
  have hpos : 0 < L.extra := by omega
  have hLt := hle _ _ hL
  have ht5 : mt 5 = some ⟨L.block, L.off, 0⟩ := by
    rcases h5 with h5 | ⟨rfl, rfl⟩
    · exact hle _ _ (hold h5)
    · simpa using hbt
  refine body_of ?_
  refine wp_region_to ?_
  rw [List.range_eq_range', size7]
  refine heads_wp G.head hC ((head_k hA h6).mono hle) hRt hLt fun m1 a1' w1 v hv hF1 hA1 hR1 => ?_
  have hb1 := hb.trans (hF1.below hRt.base)
  have : v = true := by rw [hv, decide_eq_true_eq]; omega
  subst this
  refine heads_wp2 G.head hC hA1 hR1 fun m2 a2' w2 v2 hv2 hF2 hA2 hR2 => ?_
  have hb2 := hb1.trans (hF2.below hR1.base)
  have : v2 = true := by rw [hv2, decide_eq_true_eq]; omega
  subst this
  refine seg_to (n := 1) (r := 0) hC fine7 (s := byHand (a2 s (toldM s y b) k) 32 (.bool true)) (t := a3 s (toldM s y b) k) rfl G.ok3 hA2 hR2 fun m3 a3' w3 hA3 hR3 hF3 => ?_
  refine ops_end ?_
  have hb3 := hb2.trans (hF3.below hR2.base)
  have hle3 := Inj.le_trans hF1.le (Inj.le_trans hF2.le hF3.le)
  refine wp_cond_true (bool_at hA3 (calm_of G.c3) G.t3) ?_
  refine wp_skip ?_
  refine wp_block ?_
  refine wp_flat _ ?_
  have eB := bdShape
  unfold BD at eB
  rw [eB]
  refine wp_region_to ?_
  rw [List.range_eq_range', size9]
  refine seg_to (n := 3) (r := 4) hC fine9 (s := a3 s (toldM s y b) k) (t := b1 s (toldM s y b) k) rfl G.ok4 hA3 hR3 fun m4 a4' w4 hA4 hR4 hF4 => ?_
  have hb4 := hb3.trans (hF4.below hR3.base)
  have hle4 := Inj.le_trans hle3 hF4.le
  obtain ⟨c, hs4⟩ := slice_of hA4 (calm_of G.c4) G.s4 (hle4 _ _ hLt) hpos
  obtain ⟨o1, o2, o3⟩ := op9_3
  have hk4 : a4'.eval (.tmp 38) = .int .i64 (k : Int) := ARel.int_at hA4 (calm_of G.c4) G.k4
  have hp4 : VRel m4 (.pointer (some ⟨b, 0, none⟩)) (.pointer (some ⟨L.block, L.off + k, none⟩)) := by have := VRel.ptr (m := m4) (b := b) (o := 0) (hle4 _ _ hbt); simpa using this
  refine hand_to (r := 3) o1 o2 hA4 hR4 G.c4 G.w4 (at_hand o3 hs4 hk4 hk w4) hp4 (t := byHand (b1 s (toldM s y b) k) 39 (.pointer (some ⟨b, 0, none⟩))) rfl fun a5' hA5 hR4 => ?_
  refine seg_to (n := 3) (r := 0) hC fine9 (s := byHand (b1 s (toldM s y b) k) 39 (.pointer (some ⟨b, 0, none⟩))) (t := b2 s (toldM s y b) k b) rfl G.ok5 hA5 hR4 fun m6 a6' w6 hA6 hR6 hF6 => ?_
  refine ops_end ?_
  have hb6 := hb4.trans (hF6.below hR4.base)
  have hle6 := Inj.le_trans hle4 hF6.le
  refine run_to hC fine10 (s := b2 s (toldM s y b) k b) (t := b3 s (toldM s y b) k b) rfl G.ok6 hA6 hR6 fun m7 a7' w7 hA7 hR7 hF7 => ?_
  have hb7 := hb6.trans (hF7.below hR6.base)
  have hle7 := Inj.le_trans hle6 hF7.le
  refine wp_region_to ?_
  rw [List.range_eq_range', size11]
  refine seg_to (n := 3) (r := 26) hC fine11 (s := b3 s (toldM s y b) k b) (t := d1 s (toldM s y b) k b) rfl G.ok7 hA7 hR7 fun m8 a8' w8 hA8 hR8 hF8 => ?_
  have hb8 := hb7.trans (hF8.below hR7.base)
  have hle8 := Inj.le_trans hle7 hF8.le
  obtain ⟨o4, o5, o6⟩ := op11_3
  have h46 := ARel.int_at hA8 (calm_of G.c7) G.k7
  have hrun := eqlC_hand (P := PP) o6 h46 w8
  rw [← hz] at hrun
  refine hand_to (r := 25) o4 o5 hA8 hR8 G.c7 G.w7 hrun (.bool z) (t := byHand (d1 s (toldM s y b) k b) 47 (.bool z)) rfl fun a9' hA9 hR8 => ?_
  refine seg_to (n := 12) (r := 13) hC fine11 (s := byHand (d1 s (toldM s y b) k b) 47 (.bool z)) (t := d2 s (toldM s y b) k b z) rfl G.ok8 hA9 hR8 fun m10 a10' w10 hA10 hR10 hF10 => ?_
  have hb10 := hb8.trans (hF10.below hR8.base)
  have hle10 := Inj.le_trans hle8 hF10.le
  obtain ⟨o7, o8, o9⟩ := op11_16
  obtain ⟨c', hs10⟩ := slice_of hA10 (calm_of G.c8) G.s8 (hle10 _ _ hLt) hpos
  have hp10 : VRel m10 (.pointer (some ⟨5, 0, none⟩)) (.pointer (some ⟨L.block, L.off + 0, none⟩)) := by have := VRel.ptr (m := m10) (b := 5) (o := 0) (hle10 _ _ ht5); simpa using this
  refine hand_to (r := 12) o7 o8 hA10 hR10 G.c8 G.w8 (at_hand (k := 0) o9 hs10 rfl hpos w10) hp10 (t := byHand (d2 s (toldM s y b) k b z) 60 (.pointer (some ⟨5, 0, none⟩))) rfl fun a11' hA11 hR10 => ?_
  refine seg_to (n := 12) (r := 0) hC fine11 (s := byHand (d2 s (toldM s y b) k b z) 60 (.pointer (some ⟨5, 0, none⟩))) (t := d3 s (toldM s y b) k b z) rfl G.ok9 hA11 hR10 fun m12 a12' w12 hA12 hR12 hF12 => ?_
  refine ops_end ?_
  have hb12 := hb10.trans (hF12.below hR10.base)
  have hle12 := Inj.le_trans hle10 hF12.le
  refine wp_cond_false (bool_at hA12 (calm_of G.c9) G.t9) ?_
  refine wp_skip ?_
  show wpL PP [C8] _ _ _
  refine run_to hC fine8 (s := d3 s (toldM s y b) k b z) (t := e1 s (toldM s y b) k b z) rfl G.ok10 hA12 hR12 fun m13 a13' w13 hA13 hR13 hF13 => ?_
  have hb13 := hb12.trans (hF13.below hR12.base)
  have hle13 := Inj.le_trans hle12 hF13.le
  have h613 : a13'.tmps.getD 6 undef = .int .i64 ((k + 1 : Nat) : Int) := by
    rw [ARel.int_at hA13 (calm_of G.c10) G.k10]
    congr 1
    exact wrap_small hk2
  obtain ⟨hAw, hRw⟩ := weakS_only G.weak hA13 hR13 (fun i hi m' => by
    obtain rfl : i = 6 := by simpa using hi
    rw [h613, G.six]
    exact .aint _ _ _ (.inl rfl))
  refine hQ _ _ ⟨_, hAw, hRw, hb13, ?_, h613, ?_, ?_, fun _ => ?_⟩
  · simp only [Inj.only, hkeep.1, if_true]; exact hle13 _ _ hLt
  · simp only [Inj.only, hkeep.2.2.1]; rfl
  · simp only [Inj.only, hkeep.2.2.2]; rfl
  · simp only [Inj.only, hkeep.2.1, if_true]; exact hle13 _ _ ht5
theorem keep1 : keepOf PP.globals.size f1.next f1.objs 3 = true ∧ keepOf PP.globals.size f1.next f1.objs 5 = true ∧ keepOf PP.globals.size f1.next f1.objs 6 = false ∧ keepOf PP.globals.size f1.next f1.objs 7 = false := by
  refine ⟨?_, ?_, ?_, ?_⟩ <;> kernel_rfl
theorem keep2 : keepOf PP.globals.size f2.next f2.objs 3 = true ∧ keepOf PP.globals.size f2.next f2.objs 5 = true ∧ keepOf PP.globals.size f2.next f2.objs 6 = false ∧ keepOf PP.globals.size f2.next f2.objs 7 = false := by
  refine ⟨?_, ?_, ?_, ?_⟩ <;> kernel_rfl
theorem keep0 : keepOf PP.globals.size f0.next f0.objs 3 = true ∧ keepOf PP.globals.size f0.next f0.objs 4 = false ∧ keepOf PP.globals.size f0.next f0.objs 5 = false := by
  refine ⟨?_, ?_, ?_⟩ <;> kernel_rfl
theorem next0 : f0.mem.next = 12 := by kernel_rfl
theorem next1 : f1.mem.next = 12 := by kernel_rfl
theorem next2 : f2.mem.next = 12 := by kernel_rfl

/-- the loop's head, whatever the round -/
def AtHead (base : Nat) (w0 : World) (L : Ab.Loc) (k : Nat) (a' : Act) (w : World) : Prop :=
  (k = 0 ∧ Head base w0 L f0 4 5 false 0 a' w) ∨ (k = 1 ∧ Head base w0 L f1 6 7 true 1 a' w) ∨ (2 ≤ k ∧ Head base w0 L f2 6 7 true k a' w)

theorem loop_wp (hW : Came base w0 L x) (hC : COK PP base CW) {Q : Exit → Act → World → Prop} (hQ : ∀ a1 w1, Rest (fun e w' => e = .returned (.bool true) ∧ Below base w0 w') a1 w1 → Q (.exit 0) a1 w1) :
    ∀ (N k : Nat) (a' : Act) (w : World), 1001 ≤ N + k → k ≤ 1000 → AtHead base w0 L k a' w → Code.rounds PP (inner (inner (nthC (itemsC PP 4) 7))) Q N a' w
  | 0, k, a', w, hN, hk, hH => by omega
  | N + 1, k, a', w, hN, hk, hH => by
    rw [rounds_succ]
    by_cases hend : k < L.extra ∧ k < 1000
    · have next : ∀ a1 w1, AtHead base w0 L (k + 1) a1 w1 → Exit.then (Code.rounds PP (inner (inner (nthC (itemsC PP 4) 7))) Q N) Q .normal a1 w1 := fun a1 w1 h =>
        loop_wp hW hC hQ N (k + 1) a1 w1 (by omega) (by omega) h
      rcases hH with ⟨rfl, hH⟩ | ⟨rfl, hH⟩ | ⟨h2, hH⟩
      · exact goes_wp hW (goes0 _) hC hH (by decide) (by rw [next0]; decide) (by rw [next0]; decide) rfl (.inr ⟨rfl, rfl⟩) hend.1 hend.2 keep1 fun a1 w1 h => next a1 w1 (.inr (.inl ⟨rfl, h⟩))
      · exact goes_wp hW (goes1 _) hC hH (by decide) (by rw [next1]; decide) (by rw [next1]; decide) rfl (.inl rfl) hend.1 hend.2 keep2 fun a1 w1 h => next a1 w1 (.inr (.inr ⟨by omega, h⟩))
      · exact goes_wp hW (goes2 _) hC hH (by decide) (by rw [next2]; decide) (by rw [next2]; decide) (by rw [eq_comm, decide_eq_false_iff_not]; omega) (.inl rfl) hend.1 hend.2 keep2 fun a1 w1 h => next a1 w1 (.inr (.inr ⟨by omega, h⟩))
    · have out : ∀ a1 w1, Rest (fun e w' => e = .returned (.bool true) ∧ Below base w0 w') a1 w1 → Exit.then (Code.rounds PP (inner (inner (nthC (itemsC PP 4) 7))) Q N) Q (.exit 0) a1 w1 := fun a1 w1 h => hQ a1 w1 h
      rcases hH with ⟨rfl, hH⟩ | ⟨rfl, hH⟩ | ⟨h2, hH⟩
      · exact ends_wp (ends0 _) hC hH hend out
      · exact ends_wp (ends1 _) hC hH hend out
      · exact ends_wp (ends2 _) hC hH hend out

/-- the whole call -/
theorem future_calls {W : World} (hS : W.ShapedOpen PP) (hL : laidMet PP Rows.onceFutureRow.laid W) {arg : Value} (hW : Came W.heap.size W L x) (harg : (arg = .slice none 0 0 ∧ L = ⟨0, 0, 0⟩) ∨ (∃ a c, arg = .slice (some a) 0 c ∧ L = ⟨0, 0, 0⟩) ∨ (∃ c, 0 < L.extra ∧ arg = .slice (some ⟨L.block, L.off, none⟩) L.extra c)) :
    Calls PP 4 #[arg] W fun e w' => e = .returned (.bool true) ∧ Below W.heap.size W w' := by
  have hR := laid_rel small more hS hL
  have hg : 0 < PP.globals.size := by decide +kernel
  have h3 : PP.globals.size = 3 := by decide +kernel
  have hlive : L.block < W.heap.size := by
    rcases harg with ⟨_, rfl⟩ | ⟨a, c, _, rfl⟩ | ⟨c, hp, _⟩
    · exact hR.live 0 ⟨0, 0, 0⟩ (hR.low 0 hg)
    · exact hR.live 0 ⟨0, 0, 0⟩ (hR.low 0 hg)
    · exact hW.below hp
  have hn3 : globs PP 3 = none := by
    unfold globs
    rw [h3]; rfl
  have hR8 : Rel PP W.heap.size (globs PP) { (laidMem PP Rows.onceFutureRow.laid) with next := 8 } W :=
    ⟨hR.low, hR.obj, hR.apart, hR.live, fun b L h => by
      have := hR.fresh b L h
      have hx : (laidMem PP Rows.onceFutureRow.laid).next = 3 := by kernel_rfl
      show b < 8
      omega, hR.base, by decide⟩
  have hRe : Rel PP W.heap.size ((globs PP).set 3 L) enterM W := hR8.symbol hn3 (by decide) hlive
  have hv : VRel ((globs PP).set 3 L) (.complex .f64 2 3) arg := by
    have h := Inj.set_same (globs PP) 3 L
    rcases harg with ⟨rfl, hL0⟩ | ⟨a, c, rfl, hL0⟩ | ⟨c, hp, rfl⟩
    · exact .symE none 0 h (by rw [hL0])
    · exact .symE (some a) c h (by rw [hL0])
    · exact .symS c h
  refine body_wp fine has4 (args := #[.complex .f64 2 3]) (m := (globs PP).set 3 L) (.cons hv .nil) (by kernel_rfl) fun a' hA => ?_
  have hC := callers W.heap.size
  have he := enters
  unfold firstS at he
  split at he
  case h_2 => cases he
  rename_i a1 M1 hd
  have key := dList_ok hC (dDraw_ok hC) _ (all_sub (items_fine fine has4) 0 7) hd hA hRe
  have e : (itemsC PP 4).drop 0 = ((itemsC PP 4).drop 0).take 7 ++ (itemsC PP 4).drop 7 := by rw [List.drop_zero, List.take_append_drop]
  rw [e]
  refine wpL_append _ (wpL_mono (fun x a2 w2 ⟨m2, hx, hA2, hR2, hF2⟩ => ?_) _ key)
  cases x <;> first | exact hx.elim | skip
  obtain ⟨hAw, hRw⟩ := weakS_only he hA2 hR2 (by simp)
  show wpL PP ((itemsC PP 4).drop 7) _ _ _
  rw [loopShape]
  refine wp_block (wp_loop_rounds 1001 ?_)
  refine loop_wp (L := L) (x := ‹Nat → Nat›) hW hC (fun a1 w1 h => ?_) 1001 0 a2 w2 (by omega) (by omega) (.inl ⟨rfl, ?_⟩)
  · simp only [Exit.inBlock, if_true]
    exact h
  · refine ⟨_, hAw, hRw, hF2.below hRe.base, ?_, ?_, ?_, ?_, fun h => by cases h⟩
    · simp only [Inj.only, keep0.1, if_true]; exact hF2.le _ _ (Inj.set_same _ _ _)
    · exact ARel.int_at hAw (by kernel_rfl) six0
    · simp only [Inj.only, keep0.2.1]; rfl
    · simp only [Inj.only, keep0.2.2]; rfl

end
end
end Go.Proofs.YtmmfohfjmmomfaaGreatDoor.onceFuture
