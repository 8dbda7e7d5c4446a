/- A function in which the translation leaves a choice open (a variable that one of two stores writes last): both ways are run, and what they come to is joined. -/
import Derived.Test.YtjlbdefkkhfhaaaGreatDoorAbForkDef
import Derived.Test.YtjlbdefkkhfhaaaGreatDoorAbDraw4
namespace Go.Ab
open Go
noncomputable section

/-! ## it is so -/
section
variable {P : Program} {base : Nat} {C : Callers} {draw : Array Oper → DAct → Mem → Option (Exit × DAct × Mem)} {K : Nat}

def PostL (P : Program) (base : Nat) (m : Inj) (M : Mem) (w : World) (L : List Out) : Exit → Act → World → Prop :=
  fun x' a' w' => ∃ o ∈ L, Post P base m M w o.1 o.2.1 o.2.2 x' a' w'

theorem wpOp_step1 {ops : Array Oper} {i : Nat} {o : Oper} (ho : ops[i]? = some o) (hg : o.guard = none) (hfo : fineOper P o = true) {a a1 : DAct} {M M1 : Mem} (h : step1 P o (some (a, M)) = some (a1, M1)) {m : Inj} {w : World} {a' : Act}
    (hA : ARel m a a') (hj : a.junk = []) (hR : Rel P base m M w) {Q : Exit → Act → World → Prop} {k : Act → World → Prop}
    (hK : ∀ m' w' a1', ARel m' a1 a1' → a1.junk = [] → Rel P base m' M1 w' → Fr base m m' M M1 w w' → k a1' w') : wpOp P ops Q i k a' w := by
  have hρ : ∀ y ∈ o.op.operands, VRel m (a.eval y) (a'.eval y) := fun y hy => hA.eval hj hR (by
    unfold fineOper at hfo
    rw [List.all_eq_true] at hfo
    exact hfo y (by simpa using hy))
  unfold wpOp
  rw [ho]
  simp only
  have hw : Region.wanted o (yielded ops a'.tmps) = true := by unfold Region.wanted; rw [hg]
  rw [if_pos hw]
  left
  unfold Oper.wp
  unfold step1 at h
  simp only at h
  cases hop : dOp P o a.eval M with
  | none => rw [hop] at h; cases h
  | some p =>
    obtain ⟨r, M'⟩ := p
    rw [hop] at h
    have hok := dOp_ok hR hρ hop
    cases r with
    | val v =>
      obtain ⟨m', w', n, hrun, hn, hR', hF⟩ := hok
      rw [hrun]
      cases n <;> first | exact hn.elim | skip
      simp only [Option.some.injEq, Prod.mk.injEq] at h
      obtain ⟨rfl, rfl⟩ := h
      exact hK _ _ _ ((hA.mono hF.le).put hn _) ((put_junk _ _ _).trans hj) hR' hF
    | skip =>
      obtain ⟨m', w', n, hrun, hn, hR', hF⟩ := hok
      rw [hrun]
      cases n <;> first | exact hn.elim | skip
      simp only [Option.some.injEq, Prod.mk.injEq] at h
      obtain ⟨rfl, rfl⟩ := h
      exact hK _ _ _ ((hA.mono hF.le).put (undef_rel m') _) ((put_junk _ _ _).trans hj) hR' hF
    | _ => cases h

theorem step1_some {o : Oper} {r : Option (DAct × Mem)} {a1 : DAct} {M1 : Mem} (h : step1 P o r = some (a1, M1)) : ∃ a M, r = some (a, M) := by
  cases r with
  | none => simp [step1] at h
  | some p => exact ⟨p.1, p.2, rfl⟩

theorem choice_spec {ops : Array Oper} {o0 o1 o2 o3 : Oper} (h : choiceOps ops = some (o0, o1, o2, o3)) : ops = #[o0, o1, o2, o3] ∧ o0.guard = none ∧ o1.guard = none ∧ o2.guard = none ∧ o3.guard = none ∧ depsOf o0 = [] ∧
    (∀ d ∈ depsOf o1, d = 0) ∧ (∀ d ∈ depsOf o2, d = 0) ∧ (∀ d ∈ depsOf o3, d = 0 ∨ d = 1 ∨ d = 2) ∧ 0 ∈ depsOf o1 ∧ 0 ∈ depsOf o2 ∧ 1 ∈ depsOf o3 ∧ 2 ∈ depsOf o3 := by
  unfold choiceOps at h
  split at h
  case h_2 => cases h
  rename_i p0 p1 p2 p3 hl
  simp only [cond_eq_ite, Bool.and_eq_true, Option.isNone_iff_eq_none, List.isEmpty_iff, List.all_eq_true, memN_iff] at h
  split at h
  case isFalse => cases h
  rename_i hc
  simp only [Option.some.injEq, Prod.mk.injEq] at h
  obtain ⟨rfl, rfl, rfl, rfl⟩ := h
  obtain ⟨⟨⟨⟨⟨⟨⟨⟨⟨⟨⟨g0, g1⟩, g2⟩, g3⟩, d0⟩, d1⟩, d2⟩, d3⟩, e1⟩, e2⟩, e3⟩, e4⟩ := hc
  refine ⟨by apply Array.ext'; simpa using hl, g0, g1, g2, g3, d0, fun d hd => by simpa using d1 d hd, fun d hd => by simpa using d2 d hd, fun d hd => by simpa using d3 d hd, e1, e2, e3, e4⟩

theorem choice_ok {id : Nat} {ops : Array Oper} {o0 o1 o2 o3 : Oper} (hc : choiceOps ops = some (o0, o1, o2, o3)) (hmix : P.follows .mixedOrders = true) (hfine : ops.toList.all (fineOper P) = true) {a a1 a2 : DAct} {M M1 M2 : Mem}
    (h1 : step1 P o3 (step1 P o2 (step1 P o1 (step1 P o0 (some (a, M))))) = some (a1, M1)) (h2 : step1 P o3 (step1 P o1 (step1 P o2 (step1 P o0 (some (a, M))))) = some (a2, M2))
    {m : Inj} {w : World} {a' : Act} (hA : ARel m a a') (hj : a.junk = []) (hR : Rel P base m M w) :
    (Code.region id ops true).wp P (PostL P base m M w [(.normal, a1, M1), (.normal, a2, M2)]) a' w := by
  obtain ⟨rfl, g0, g1, g2, g3, d0, d1, d2, d3, e1, e2, e3, e4⟩ := choice_spec hc
  simp only [List.all_cons, List.all_nil, Bool.and_true, Bool.and_eq_true] at hfine
  obtain ⟨f0, f1, f2, f3⟩ := hfine
  refine wp_region_any hmix ?_
  have i0 : (#[o0, o1, o2, o3] : Array Oper)[0]? = some o0 := rfl
  have i1 : (#[o0, o1, o2, o3] : Array Oper)[1]? = some o1 := rfl
  have i2 : (#[o0, o1, o2, o3] : Array Oper)[2]? = some o2 := rfl
  have i3 : (#[o0, o1, o2, o3] : Array Oper)[3]? = some o3 := rfl
  have hout : ∀ {j : Nat} {o : Oper}, (#[o0, o1, o2, o3] : Array Oper)[j]? = some o → j = 0 ∨ j = 1 ∨ j = 2 ∨ j = 3 := by
    intro j o h
    have := (Array.getElem?_eq_some_iff.1 h).1
    simp at this
    omega
  have rdy : ∀ (l : Array Bool), l.size = 4 → ∀ j, j ∈ Region.ready .any #[o0, o1, o2, o3] l → Slist l j = false ∧ ∃ o, (#[o0, o1, o2, o3] : Array Oper)[j]? = some o ∧ ∀ d ∈ depsOf o, Slist l d = true := fun l hl j h => (ready_iff hl).1 h
  have notNil : ∀ (l : Array Bool), l.size = 4 → ∀ j o, Slist l j = false → (#[o0, o1, o2, o3] : Array Oper)[j]? = some o → (∀ d ∈ depsOf o, Slist l d = true) → Region.ready .any #[o0, o1, o2, o3] l ≠ [] := fun l hl j o q1 q2 q3 hn => by
    have := (ready_iff hl).2 ⟨q1, o, q2, q3⟩
    rw [hn] at this; simp at this
  -- the last: it is loaded
  have last : ∀ {a3 b : DAct} {M3 N : Mem} {m3 : Inj} {w3 : World} {a3' : Act}, step1 P o3 (some (a3, M3)) = some (b, N) → ((.normal, b, N) : Out) ∈ [(Exit.normal, a1, M1), (.normal, a2, M2)] → ARel m3 a3 a3' → a3.junk = [] → Rel P base m3 M3 w3 →
      Fr base m m3 M M3 { w with drawn := w.drawn + 1 } w3 → wpAny P .any #[o0, o1, o2, o3] (PostL P base m M w [(.normal, a1, M1), (.normal, a2, M2)]) 1 #[true, true, true, false] a3' w3 := by
    intro a3 b M3 N m3 w3 a3' hs hm hA3 hj3 hR3 hF3
    refine ⟨fun hn => absurd hn (notNil _ rfl 3 o3 rfl i3 fun d hd => by rcases d3 d hd with rfl | rfl | rfl <;> rfl), fun i hi => ?_⟩
    obtain ⟨q1, o, q2, q3⟩ := rdy _ rfl i hi
    rcases hout q2 with rfl | rfl | rfl | rfl <;> first | (cases q1; done) | skip
    refine wpOp_step1 i3 g3 f3 hs hA3 hj3 hR3 fun m' w' a1' hA' hj' hR' hF' => ?_
    have hnil : Region.ready .any #[o0, o1, o2, o3] (#[true, true, true, false].setIfInBounds 3 true) = [] := by
      rw [List.eq_nil_iff_forall_not_mem]
      intro j hj
      obtain ⟨q1, o, q2, _⟩ := rdy _ rfl j hj
      rcases hout q2 with rfl | rfl | rfl | rfl <;> cases q1
    exact ⟨hnil, _, hm, m', trivial, hA', hR', (Fr.heap (m := m) (M := M) (w := w) (w' := { w with drawn := w.drawn + 1 }) rfl rfl rfl rfl).trans (hF3.trans hF')⟩
  obtain ⟨b3, N3, hb3⟩ := step1_some h1
  obtain ⟨b2, N2, hb2⟩ := step1_some hb3
  obtain ⟨b1, N1, hb1⟩ := step1_some hb2
  obtain ⟨c3, L3, hc3⟩ := step1_some h2
  obtain ⟨c2, L2, hc2⟩ := step1_some hc3
  rw [hb1] at hb2 hc2
  rw [hb1] at h1 h2 hb3 hc3
  rw [hb2] at hb3 h1
  rw [hc2] at hc3 h2
  rw [hb3] at h1
  rw [hc3] at h2
  show wpAny P .any #[o0, o1, o2, o3] _ 4 #[false, false, false, false] a' _
  refine ⟨fun hn => absurd hn (notNil _ rfl 0 o0 rfl i0 fun d hd => by rw [d0] at hd; simp at hd), fun i hi => ?_⟩
  obtain ⟨q1, o, q2, q3⟩ := rdy _ rfl i hi
  rcases hout q2 with rfl | rfl | rfl | rfl
  · refine wpOp_step1 (w := { w with drawn := w.drawn + 1 }) i0 g0 f0 hb1 hA hj (hR.heap rfl) fun m' w' a1' hA' hj' hR' hF' => ?_
    show wpAny P .any #[o0, o1, o2, o3] _ 3 #[true, false, false, false] a1' w'
    refine ⟨fun hn => absurd hn (notNil _ rfl 1 o1 rfl i1 fun d hd => by rw [d1 d hd]; rfl), fun i hi => ?_⟩
    obtain ⟨q1, o, q2, q3⟩ := rdy _ rfl i hi
    rcases hout q2 with rfl | rfl | rfl | rfl
    · cases q1
    · refine wpOp_step1 i1 g1 f1 hb2 hA' hj' hR' fun m2 w2 a2' hA2 hj2 hR2 hF2 => ?_
      show wpAny P .any #[o0, o1, o2, o3] _ 2 #[true, true, false, false] a2' w2
      refine ⟨fun hn => absurd hn (notNil _ rfl 2 o2 rfl i2 fun d hd => by rw [d2 d hd]; rfl), fun i hi => ?_⟩
      obtain ⟨q1, o, q2, q3⟩ := rdy _ rfl i hi
      rcases hout q2 with rfl | rfl | rfl | rfl <;> first | (cases q1; done) | skip
      · refine wpOp_step1 i2 g2 f2 hb3 hA2 hj2 hR2 fun m3 w3 a3' hA3 hj3 hR3 hF3 => ?_
        exact last h1 (by simp) hA3 hj3 hR3 (hF'.trans (hF2.trans hF3))
      · rw [i3] at q2; cases q2; have := q3 2 e4; cases this
    · refine wpOp_step1 i2 g2 f2 hc2 hA' hj' hR' fun m2 w2 a2' hA2 hj2 hR2 hF2 => ?_
      show wpAny P .any #[o0, o1, o2, o3] _ 2 #[true, false, true, false] a2' w2
      refine ⟨fun hn => absurd hn (notNil _ rfl 1 o1 rfl i1 fun d hd => by rw [d1 d hd]; rfl), fun i hi => ?_⟩
      obtain ⟨q1, o, q2, q3⟩ := rdy _ rfl i hi
      rcases hout q2 with rfl | rfl | rfl | rfl <;> first | (cases q1; done) | skip
      · refine wpOp_step1 i1 g1 f1 hc3 hA2 hj2 hR2 fun m3 w3 a3' hA3 hj3 hR3 hF3 => ?_
        exact last h2 (by simp) hA3 hj3 hR3 (hF'.trans (hF2.trans hF3))
      · rw [i3] at q2; cases q2; have := q3 1 e3; cases this
    · rw [i3] at q2; cases q2; have := q3 1 e3; cases this
  · rw [i1] at q2; cases q2; have := q3 0 e1; cases this
  · rw [i2] at q2; cases q2; have := q3 0 e2; cases this
  · rw [i3] at q2; cases q2; have := q3 1 e3; cases this

theorem bindAll_spec {f : DAct → Mem → Option (List Out)} : ∀ {L R : List Out}, bindAll f L = some R → ∀ o ∈ L, (o.1 = .normal → ∃ r, f o.2.1 o.2.2 = some r ∧ ∀ x ∈ r, x ∈ R) ∧ (o.1 ≠ .normal → o ∈ R)
  | [], R, h, o, ho => by simp at ho
  | (x, a, M) :: l, R, h, o, ho => by
    unfold bindAll at h
    split at h
    · rename_i he; cases he
    · rename_i he
      simp only [List.cons.injEq, Prod.mk.injEq] at he
      obtain ⟨⟨rfl, rfl, rfl⟩, rfl⟩ := he
      split at h
      · rename_i r rs hr hrs
        cases h
        rcases List.mem_cons.1 ho with rfl | ho
        · exact ⟨fun _ => ⟨r, hr, fun x hx => by simp [hx]⟩, fun hn => absurd rfl hn⟩
        · obtain ⟨h1, h2⟩ := bindAll_spec hrs o ho
          exact ⟨fun he => let ⟨r', q1, q2⟩ := h1 he; ⟨r', q1, fun x hx => by simp [q2 x hx]⟩, fun hn => by simp [h2 hn]⟩
      · cases h
    · rename_i o' l' hno he
      simp only [List.cons.injEq] at he
      obtain ⟨rfl, rfl⟩ := he
      cases hb : bindAll f l with
      | none => rw [hb] at h; cases h
      | some rs =>
        rw [hb] at h
        cases h
        rcases List.mem_cons.1 ho with rfl | ho
        · exact ⟨fun he => (hno a M (by rw [show x = Exit.normal from he])).elim, fun _ => by simp⟩
        · obtain ⟨h1, h2⟩ := bindAll_spec hb o ho
          exact ⟨fun he => let ⟨r', q1, q2⟩ := h1 he; ⟨r', q1, fun x hx => by simp [q2 x hx]⟩, fun hn => by simp [h2 hn]⟩

theorem Post.trans {m m1 : Inj} {M M1 M2 : Mem} {w w1 : World} {x : Exit} {a : DAct} {e : Exit} {a2 : Act} {w2 : World} (hF : Fr base m m1 M M1 w w1) (h : Post P base m1 M1 w1 x a M2 e a2 w2) : Post P base m M w x a M2 e a2 w2 :=
  let ⟨m3, p1, p2, p3, p4⟩ := h
  ⟨m3, p1, p2, p3, hF.trans p4⟩

theorem bind_wp {f : DAct → Mem → Option (List Out)} {nx : Act → World → Prop} {m : Inj} {M : Mem} {w : World} {L R : List Out} (h : bindAll f L = some R) {Q : Exit → Act → World → Prop}
    (hQ : ∀ e a w', PostL P base m M w R e a w' → Q e a w')
    (hn : ∀ {a : DAct} {M1 : Mem} {r : List Out}, f a M1 = some r → ∀ {m1 : Inj} {w1 : World} {a1 : Act}, ARel m1 a a1 → Rel P base m1 M1 w1 → (∀ e a2 w2, PostL P base m1 M1 w1 r e a2 w2 → Fr base m m1 M M1 w w1 → Q e a2 w2) → Fr base m m1 M M1 w w1 → nx a1 w1)
    {e : Exit} {a' : Act} {w' : World} (hp : PostL P base m M w L e a' w') : Exit.then nx Q e a' w' := by
  obtain ⟨⟨x, a, M1⟩, ho, m1, hx, hA, hR, hF⟩ := hp
  obtain ⟨h1, h2⟩ := bindAll_spec h _ ho
  simp only at hx hA hR hF h1 h2
  cases x with
  | normal =>
    cases e <;> first | exact hx.elim | skip
    obtain ⟨r, hr, hsub⟩ := h1 rfl
    exact hn hr hA hR (fun e a2 w2 ⟨o, ho, hp⟩ hF' => hQ _ _ _ ⟨o, hsub o ho, hp.trans hF'⟩) hF
  | exit i =>
    cases e <;> first | exact hx.elim | skip
    exact hQ _ _ _ ⟨_, h2 (by simp), m1, hx, hA, hR, hF⟩
  | ret =>
    cases e <;> first | exact hx.elim | skip
    exact hQ _ _ _ ⟨_, h2 (by simp), m1, hx, hA, hR, hF⟩
  | panic ch =>
    cases e <;> first | exact hx.elim | skip
    exact hQ _ _ _ ⟨_, h2 (by simp), m1, hx, hA, hR, hF⟩
  | goto l => cases e <;> exact hx.elim
  | outgrown => cases e <;> exact hx.elim

theorem loopL_ok {c : Code} {body : DAct → Mem → Option (List Out)}
    (hb : ∀ {a : DAct} {M : Mem} {L : List Out}, body a M = some L → ∀ {m : Inj} {w : World} {a' : Act}, ARel m a a' → Rel P base m M w → c.wp P (PostL P base m M w L) a' w) :
    ∀ (k : Nat) {a : DAct} {M : Mem} {L : List Out}, loopL body k a M = some L → ∀ {m : Inj} {w : World} {a' : Act}, ARel m a a' → Rel P base m M w → ∀ (Q : Exit → Act → World → Prop), (∀ e a w', PostL P base m M w L e a w' → Q e a w') →
      Code.rounds P c Q k a' w
  | 0, a, M, L, h, _, _, _, _, _, _, _ => by simp [loopL] at h
  | k + 1, a, M, L, h, m, w, a', hA, hR, Q, hQ => by
    rw [rounds_succ]
    unfold loopL at h
    split at h
    case h_2 => cases h
    rename_i L0 hbody
    refine wp_mono (hb hbody hA hR) fun e a2 w2 hp => ?_
    exact bind_wp h hQ (fun hr _ _ _ hA1 hR1 hq hF => loopL_ok hb k hr hA1 hR1 Q fun e a w' hp => hq e a w' hp hF) hp

theorem outBlock_mem {id : Nat} : ∀ {L : List Out} {o : Out}, o ∈ L → (∃ i, o.1 = .exit i ∧ ((i = id ∧ (.normal, o.2.1, o.2.2) ∈ outBlock id L) ∨ (i ≠ id ∧ o ∈ outBlock id L))) ∨ ((∀ i, o.1 ≠ .exit i) ∧ o ∈ outBlock id L)
  | [], o, ho => by simp at ho
  | (x, a, M) :: l, o, ho => by
    rcases List.mem_cons.1 ho with rfl | ho
    · cases x with
      | exit i =>
        left
        refine ⟨i, rfl, ?_⟩
        by_cases hi : i = id
        · subst hi
          left
          refine ⟨rfl, ?_⟩
          unfold outBlock
          simp
        · right
          refine ⟨hi, ?_⟩
          have hb : Nat.beq i id = false := by
            cases hq : Nat.beq i id with
            | false => rfl
            | true => exact absurd (Nat.eq_of_beq_eq_true hq) hi
          simp [outBlock, hb]
      | _ => right; exact ⟨fun i => by simp, by simp [outBlock]⟩
    · have ih := outBlock_mem (id := id) ho
      have hsub : ∀ y, y ∈ outBlock id l → y ∈ outBlock id ((x, a, M) :: l) := fun y hy => by
        cases x <;> simp [outBlock, hy]
      rcases ih with ⟨i, h1, h2⟩ | ⟨h1, h2⟩
      · exact .inl ⟨i, h1, h2.imp (fun h => ⟨h.1, hsub _ h.2⟩) fun h => ⟨h.1, hsub _ h.2⟩⟩
      · exact .inr ⟨h1, hsub _ h2⟩

theorem dL_ok (hC : COK P base C) (hD : DrawOK P base draw) : ∀ (c : Code), fineCode P c = true → ∀ {a : DAct} {M : Mem} {L : List Out},
    dL P C draw K c a M = some L → ∀ {m : Inj} {w : World} {a' : Act}, ARel m a a' → Rel P base m M w → c.wp P (PostL P base m M w L) a' w := by
  intro c
  have other : ∀ {c : Code}, fineCode P c = true → ∀ {a : DAct} {M : Mem} {L : List Out}, ((dCode P C draw K c a M).map fun r => [r]) = some L →
      ∀ {m : Inj} {w : World} {a' : Act}, ARel m a a' → Rel P base m M w → c.wp P (PostL P base m M w L) a' w := by
    intro c hf a M L h m w a' hA hR
    cases hc : dCode P C draw K c a M with
    | none => rw [hc] at h; cases h
    | some r =>
      rw [hc] at h; cases h
      obtain ⟨x, a1, M1⟩ := r
      exact wp_mono (dCode_ok hC hD c hf hc hA hR) fun e a2 w2 hp => ⟨(x, a1, M1), by simp, hp⟩
  induction c with
  | region id ops drw =>
    intro hf a M L h m w a' hA hR
    cases drw with
    | false => exact other hf (by unfold dL at h; exact h) hA hR
    | true =>
      unfold dL at h
      split at h
      · rename_i o0 o1 o2 o3 hch
        simp only [cond_eq_ite, Bool.and_eq_true, List.isEmpty_iff] at h
        split at h
        case isFalse => cases h
        rename_i hc
        split at h
        case h_2 => cases h
        rename_i a1 M1 a2 M2 h1 h2
        cases h
        exact choice_ok hch hc.2 hf h1 h2 hA hc.1 hR
      · exact other hf h hA hR
  | seq x y ihx ihy =>
    intro hf a M L h m w a' hA hR
    simp only [fineCode, Bool.and_eq_true] at hf
    unfold dL at h
    split at h
    case h_2 => cases h
    rename_i L0 hx
    refine wp_seq (wp_mono (ihx hf.1 hx hA hR) fun e a2 w2 hp => ?_)
    exact bind_wp h (fun _ _ _ h => h) (fun hr _ _ _ hA1 hR1 hq hF => wp_mono (ihy hf.2 hr hA1 hR1) fun e a w' hp => hq e a w' hp hF) hp
  | cond c x y ihx ihy =>
    intro hf a M L h m w a' hA hR
    simp only [fineCode, Bool.and_eq_true] at hf
    unfold dL at h
    simp only [cond_eq_ite, List.isEmpty_iff] at h
    split at h
    case isFalse => cases h
    rename_i hj
    have hc := hA.eval hj hR hf.1.1
    split at h
    · rename_i hv
      rw [hv] at hc
      generalize hcv : a'.eval c = cv at hc
      cases hc
      exact wp_cond_true hcv (ihx hf.1.2 h hA hR)
    · rename_i hv
      rw [hv] at hc
      generalize hcv : a'.eval c = cv at hc
      cases hc
      exact wp_cond_false hcv (ihy hf.2 h hA hR)
    · cases h
  | block id c ih =>
    intro hf a M L h m w a' hA hR
    unfold dL at h
    cases hx : dL P C draw K c a M with
    | none => rw [hx] at h; cases h
    | some L0 =>
      rw [hx] at h; cases h
      refine wp_block (wp_mono (ih hf hx hA hR) fun e a2 w2 hp => ?_)
      obtain ⟨o, ho, m1, hxr, hA1, hR1, hF1⟩ := hp
      rcases outBlock_mem (id := id) ho with ⟨i, h1, h2⟩ | ⟨h1, h2⟩
      · rw [h1] at hxr
        cases e <;> first | exact hxr.elim | skip
        rename_i j
        have hji : j = i := hxr
        subst hji
        simp only [Exit.inBlock]
        rcases h2 with ⟨rfl, h2⟩ | ⟨hne, h2⟩
        · rw [if_pos rfl]; exact ⟨_, h2, m1, trivial, hA1, hR1, hF1⟩
        · rw [if_neg hne]; exact ⟨_, h2, m1, by rw [h1]; exact rfl, hA1, hR1, hF1⟩
      · cases e <;> first
          | exact ⟨_, h2, m1, hxr, hA1, hR1, hF1⟩
          | (exfalso
             generalize o.1 = x at hxr h1
             cases x <;> first | exact hxr.elim | exact absurd rfl (h1 _))
  | loop c ih =>
    intro hf a M L h m w a' hA hR
    refine wp_loop_rounds K ?_
    unfold dL at h
    exact loopL_ok (fun h1 _ _ _ h2 h3 => ih hf h1 h2 h3) K h hA hR _ fun _ _ _ hp => hp
  | skip => intro hf a M L h m w a' hA hR; exact other hf (by unfold dL at h; exact h) hA hR
  | label l => intro hf a M L h m w a' hA hR; exact other hf (by unfold dL at h; exact h) hA hR
  | goto l => intro hf a M L h m w a' hA hR; exact other hf (by unfold dL at h; exact h) hA hR
  | exit l => intro hf a M L h m w a' hA hR; exact other hf (by unfold dL at h; exact h) hA hR
  | ret => intro hf a M L h m w a' hA hR; exact other hf (by unfold dL at h; exact h) hA hR
  | scope c _ => intro hf a M L h m w a' hA hR; exact other hf (by unfold dL at h; exact h) hA hR
  | refuse s => intro hf a M L h m w a' hA hR; exact other hf (by unfold dL at h; exact h) hA hR
  | rangeFunc f ps x y _ _ => intro hf a M L h m w a' hA hR; exact other hf (by unfold dL at h; exact h) hA hR

/-! ### the join -/
/-- M says what M1 says, or that a new block is dead -/
def JOK (n0 : Nat) (M1 M : Mem) : Prop := M.next = M1.next ∧ (∀ b, b < n0 → M.get b = M1.get b) ∧ ∀ b o, b < M.next → M.get b = some o → o = .dead ∨ M1.get b = some o
theorem JOK.refl (n0 : Nat) (M : Mem) : JOK n0 M M := ⟨rfl, fun _ _ => rfl, fun _ _ _ h => .inr h⟩
theorem JOK.trans {n0 : Nat} {M1 M2 M3 : Mem} (h : JOK n0 M1 M2) (k : JOK n0 M2 M3) : JOK n0 M1 M3 :=
  ⟨k.1.trans h.1, fun b hb => (k.2.1 b hb).trans (h.2.1 b hb), fun b o hb hg => (k.2.2 b o hb hg).elim .inl fun hg => h.2.2 b o (by rw [← k.1]; exact hb) hg⟩
theorem Rel.jok {m : Inj} {n0 : Nat} {M1 M : Mem} {w : World} (h : JOK n0 M1 M) (hR : Rel P base m M1 w) : Rel P base m M w := by
  obtain ⟨h1, _, h3⟩ := h
  have hf : ∀ b L, m b = some L → b < M.next := fun b L hb => by rw [h1]; exact hR.fresh b L hb
  have ho : ∀ b L, m b = some L → M.own b → M1.own b := fun b L hb ⟨o, hg, hh⟩ => by
    rcases h3 b o (hf b L hb) hg with rfl | h
    · cases hh
    · exact ⟨o, h, hh⟩
  refine ⟨hR.low, fun b L o hb hg => ?_, fun b b' L L' hb hb' q q' he => hR.apart b b' L L' hb hb' (ho b L hb q) (ho b' L' hb' q') he, hR.live, hf, hR.base, by rw [h1]; exact hR.small⟩
  rcases h3 b o (hf b L hb) hg with rfl | h
  · trivial
  · exact hR.obj b L o hb h
theorem Fr.jok {m m' : Inj} {M M1 M2 : Mem} {w w' : World} (h : JOK M.next M1 M2) (hF : Fr base m m' M M1 w w') : Fr base m m' M M2 w w' :=
  ⟨hF.le, hF.os, hF.tape, hF.output, hF.size, hF.keep, hF.new, by rw [h.1]; exact hF.next, fun b hb hm => (h.2.1 b hb).trans (hF.keepM b hb hm), hF.newid⟩

theorem entEq_eq : ∀ {l k : List MapEntry}, entEq l k = true → l = k
  | [], [], _ => rfl
  | e :: l, d :: k, h => by
    simp only [entEq, Bool.and_eq_true, Nat.beq_eq] at h
    obtain ⟨⟨⟨h1, h2⟩, h3⟩, h4⟩ := h
    obtain ⟨ek, ev, eb⟩ := e
    obtain ⟨dk, dv, db⟩ := d
    simp only at h1 h2 h3
    rw [veqN_eq _ _ _ h1, veqN_eq _ _ _ h2, h3, entEq_eq h4]
  | [], _ :: _, h => by simp [entEq] at h
  | _ :: _, [], h => by simp [entEq] at h
theorem objEqX_eq {o o' : Option AObj} (h : objEqX o o' = true) : o = o' := by
  unfold objEqX at h
  split at h
  · rw [entEq_eq h]
  · simp only [beq_iff_eq] at h; rw [h]
  · rfl
  · exact objEq_eq h

theorem joinGo_spec {n0 : Nat} {M1 M2 : Mem} : ∀ {l : List Nat} {M : Mem}, joinGo n0 M1 M2 l = some M → (∀ b ∈ l, b < 4294967296) →
    M.next = M1.next ∧ (∀ b, M.get b = M1.get b ∨ (n0 ≤ b ∧ M.get b = some .dead)) ∧ ∀ b ∈ l, M.get b = M2.get b ∨ (n0 ≤ b ∧ M.get b = some .dead)
  | [], M, h, _ => by
    simp only [joinGo, Option.some.injEq] at h
    subst h
    exact ⟨rfl, fun _ => .inl rfl, by simp⟩
  | b :: l, M, h, hl => by
    unfold joinGo at h
    split at h
    case h_2 => cases h
    rename_i M0 h0
    obtain ⟨q1, q2, q3⟩ := joinGo_spec h0 fun b hb => hl b (by simp [hb])
    simp only [cond_eq_ite, Nat.ble_eq] at h
    split at h
    · rename_i he
      cases h
      have he' := objEqX_eq he
      refine ⟨q1, q2, fun c hc => ?_⟩
      rcases List.mem_cons.1 hc with rfl | hc
      · rw [← he']; exact q2 c
      · exact q3 c hc
    · split at h
      · rename_i hb
        cases h
        have hlt := hl b (by simp)
        refine ⟨q1, fun c => ?_, fun c hc => ?_⟩
        · by_cases hcb : c = b
          · subst hcb; exact .inr ⟨hb, M0.get_put_same _ hlt⟩
          · rw [M0.get_put_ne _ hcb]; exact q2 c
        · by_cases hcb : c = b
          · subst hcb; exact .inr ⟨hb, M0.get_put_same _ hlt⟩
          · rw [M0.get_put_ne _ hcb]; exact q3 c ((List.mem_cons.1 hc).resolve_left hcb)
      · cases h

theorem joinM_ok {n0 : Nat} {M1 M2 M : Mem} (h : joinM n0 M1 M2 = some M) (t1 : n0 ≤ M1.next) : JOK n0 M1 M ∧ JOK n0 M2 M := by
  unfold joinM at h
  simp only [cond_eq_ite, Bool.and_eq_true, Nat.beq_eq, Nat.ble_eq] at h
  split at h
  case isFalse => cases h
  rename_i hc
  obtain ⟨q1, q2, q3⟩ := joinGo_spec h fun b hb => by have := List.mem_range.1 hb; omega
  refine ⟨⟨q1, fun b hb => (q2 b).resolve_right fun h => by omega, fun b o _ hg => ?_⟩, ⟨q1.trans hc.1, fun b hb => (q3 b (List.mem_range.2 (by omega))).resolve_right fun h => by omega, fun b o hb hg => ?_⟩⟩
  · rcases q2 b with h | ⟨_, h⟩
    · exact .inr (h ▸ hg)
    · rw [h] at hg; cases hg; exact .inl rfl
  · rcases q3 b (List.mem_range.2 (by omega)) with h | ⟨_, h⟩
    · exact .inr (h ▸ hg)
    · rw [h] at hg; cases hg; exact .inl rfl

theorem joinAll_ok {n0 : Nat} {v : Value} : ∀ {l : List (DEnd × Mem)} {M1 M : Mem}, joinAll n0 v M1 l = some M → n0 ≤ M1.next → JOK n0 M1 M ∧ ∀ p ∈ l, p.1 = .ret v ∧ JOK n0 p.2 M
  | [], M1, M, h, _ => by
    simp only [joinAll, Option.some.injEq] at h
    subst h
    exact ⟨.refl _ _, by simp⟩
  | p :: l, M1, M, h, hn => by
    unfold joinAll at h
    split at h
    · rename_i he; cases he
    · rename_i v2 M2 l' he
      cases he
      simp only [cond_eq_ite] at h
      split at h
      case isFalse => cases h
      rename_i hv
      split at h
      case h_2 => cases h
      rename_i M0 hj
      have hv' := veqN_eq _ _ _ hv
      obtain ⟨j1, j2⟩ := joinM_ok hj hn
      obtain ⟨k1, k2⟩ := joinAll_ok h (by rw [j1.1]; exact hn)
      refine ⟨j1.trans k1, fun p hp => ?_⟩
      rcases List.mem_cons.1 hp with rfl | hp
      · exact ⟨by rw [hv'], j2.trans k1⟩
      · exact k2 p hp
    · cases h

theorem leavesAll_spec {fn : Func} : ∀ {L : List Out} {R : List (DEnd × Mem)}, leavesAll P C fn L = some R → ∀ o ∈ L, ∃ r ∈ R, (match o.1 with
      | .normal => dLeaves P C fn o.2.1 o.2.1.defers .returning o.2.2
      | .ret => dLeaves P C fn o.2.1 o.2.1.defers .returning o.2.2
      | .panic chain => dLeaves P C fn o.2.1 o.2.1.defers (.panicking chain) o.2.2
      | _ => none) = some r
  | [], R, _, o, ho => by simp at ho
  | (x, a, M) :: l, R, h, o, ho => by
    unfold leavesAll at h
    split at h
    case h_2 => cases h
    rename_i r rs hr hrs
    cases h
    rcases List.mem_cons.1 ho with rfl | ho
    · exact ⟨r, by simp, hr⟩
    · obtain ⟨r', q1, q2⟩ := leavesAll_spec hrs o ho
      exact ⟨r', by simp [q1], q2⟩

theorem dBodyF_ok (hfine : fineProg P = true) (hC : COK P base C) (hD : DrawOK P base draw) {f : FuncId} {args args' : Array Value} {M : Mem} {r : DEnd} {M' : Mem}
    (h : dBodyF P C draw K f args M = some (r, M')) {m : Inj} {w : World} (ha : VsRel m args.toList args'.toList) (hR : Rel P base m M w) :
    Calls P f args' w fun e w' => ∃ m', EndRel m' r e ∧ Rel P base m' M' w' ∧ Fr base m m' M M' w w' := by
  unfold dBodyF at h
  try simp only [pfn_eq] at h
  split at h
  case h_2 => cases h
  rename_i fn hf
  split at h
  case h_2 => cases h
  rename_i c hb
  simp only [cond_eq_ite, Bool.and_eq_true, Nat.ble_eq] at h
  split at h
  case isFalse => cases h
  rename_i hle
  split at h
  case h_2 => cases h
  rename_i L hL
  split at h
  case h_2 => cases h
  rename_i v M1 l hlv
  cases hj : joinAll M.next v M1 l with
  | none => rw [hj] at h; cases h
  | some M2 =>
    rw [hj] at h
    simp only [Option.map_some, Option.some.injEq, Prod.mk.injEq] at h
    obtain ⟨rfl, rfl⟩ := h
    have hA := enter_rel ha hle.1 hle.2
    refine calls_of_wp_defers hf hb (wp_mono (dL_ok hC hD c (fine_of hfine hf hb) hL hA hR) fun e a2 w2 hp => ?_)
    obtain ⟨⟨x, a1, Mo⟩, ho, m2, hx, hA2, hR2, hF2⟩ := hp
    simp only at hx hA2 hR2 hF2
    obtain ⟨r1, hr1, hlr⟩ := leavesAll_spec hlv _ ho
    simp only at hlr
    -- what any way leaves goes into the join
    have fin : ∀ {m3 : Inj} {e : Ending} {w3 : World}, EndRel m3 r1.1 e → Rel P base m3 r1.2 w3 → Fr base m m3 M r1.2 w w3 → ∃ m', EndRel m' (.ret v) e ∧ Rel P base m' M2 w3 ∧ Fr base m m' M M2 w w3 := by
      intro m3 e w3 p1 p2 p3
      have hn : M.next ≤ M1.next ∨ True := .inr trivial
      by_cases hle1 : M.next ≤ M1.next
      · obtain ⟨j1, j2⟩ := joinAll_ok hj hle1
        rcases List.mem_cons.1 hr1 with rfl | hr1
        · exact ⟨m3, p1, p2.jok j1, p3.jok j1⟩
        · obtain ⟨q1, q2⟩ := j2 _ hr1
          rw [q1] at p1
          exact ⟨m3, p1, p2.jok q2, p3.jok q2⟩
      · -- the first way's memory has at least as many blocks, if this way is the first; else the joins say so
        rcases List.mem_cons.1 hr1 with rfl | hr1
        · exact absurd p3.next hle1
        · have hnx : M1.next = r1.2.next := by
            have key : ∀ {l : List (DEnd × Mem)} {N1 N : Mem}, joinAll M.next v N1 l = some N → ∀ p ∈ l, N1.next = p.2.next := by
              intro l
              induction l with
              | nil => intro N1 N _ p hp; simp at hp
              | cons q l ih =>
                intro N1 N hN p hp
                unfold joinAll at hN
                split at hN
                · rename_i he; cases he
                · rename_i v2 N2 l' he
                  cases he
                  simp only [cond_eq_ite] at hN
                  split at hN
                  case isFalse => cases hN
                  split at hN
                  case h_2 => cases hN
                  rename_i N0 hj0
                  have hj1 := hj0
                  unfold joinM at hj1
                  simp only [cond_eq_ite, Bool.and_eq_true, Nat.beq_eq, Nat.ble_eq] at hj1
                  split at hj1
                  case isFalse => cases hj1
                  rename_i hc
                  obtain ⟨q1, _, _⟩ := joinGo_spec hj1 fun b hb => by have := List.mem_range.1 hb; omega
                  rcases List.mem_cons.1 hp with rfl | hp
                  · exact hc.1
                  · exact q1.symm.trans (ih hN p hp)
                · cases hN
            exact key hj _ hr1
          exact absurd (by rw [hnx]; exact p3.next) hle1
    cases x with
    | normal =>
      cases e <;> first | exact hx.elim | skip
      exact dLeaves_ok (u' := .returning) hC hlr hA2 hA2.defers trivial hR2 _ fun e w3 ⟨m3, p1, p2, p3⟩ => fin p1 p2 (hF2.trans p3)
    | ret =>
      cases e <;> first | exact hx.elim | skip
      exact dLeaves_ok (u' := .returning) hC hlr hA2 hA2.defers trivial hR2 _ fun e w3 ⟨m3, p1, p2, p3⟩ => fin p1 p2 (hF2.trans p3)
    | panic ch =>
      cases e <;> first | exact hx.elim | skip
      exact dLeaves_ok (u' := .panicking _) hC hlr hA2 hA2.defers hx hR2 _ fun e w3 ⟨m3, p1, p2, p3⟩ => fin p1 p2 (hF2.trans p3)
    | exit i => cases hlr
    | goto l => cases hlr
    | outgrown => cases hlr
end

theorem knotF_ok {P : Program} {base : Nat} {F : List FuncId} {K : Nat} (hfine : fineProg P = true) : ∀ k, COK P base (knotF P F K k)
  | 0 => ⟨fun h => by simp [knotF] at h, fun h => by simp [knotF] at h⟩
  | k + 1 =>
    have ih := knotF_ok hfine k
    ⟨fun {f args M r M'} h _ _ _ ha hR => by
      simp only [knotF, cond_eq_ite] at h
      split at h
      · exact dBodyF_ok hfine ih (dDraw_ok ih) h ha hR
      · exact dBody_ok hfine ih (dDraw_ok ih) h ha hR, fun h _ _ _ _ ha hU hR => dBodyD_ok hfine ih (dDraw_ok ih) h ha hU hR⟩
end
end Go.Ab
