/- Regions that draw their order, third part: one operation is done. -/
import Derived.Test.YtjlbdefkkhfhaaaGreatDoorAbDraw2
namespace Go.Ab
open Go

section
variable {P : Program} {base : Nat} {ops : Array Oper} {tbl : List (Nat × Nat)} {G : List Nat} {C : Callers} {fin : List Ent → List Ent → DAct → Mem → Option (Exit × DAct × Mem)} {a0 : DAct} {m0 : Inj} {M0 : Mem} {w0 : World}

theorem aput_get {a' : Act} {dst : Option Tmp} (hd : ∀ d, dst = some d → d < a'.tmps.size) (v : Value) (t : Nat) :
    (a'.put dst v).tmps.getD t undef = if dst = some t then v else a'.tmps.getD t undef := by
  cases dst with
  | none => simp [Act.put]
  | some d =>
    have := hd d rfl
    simp only [Act.put, Option.some.injEq]
    rw [getD_set]
    by_cases h : d = t
    · subst h; rw [if_pos ⟨rfl, this⟩, if_pos rfl]
    · rw [if_neg (fun hh => h hh.1), if_neg h]
theorem aput_size (a' : Act) (dst : Option Tmp) (v : Value) : (a'.put dst v).tmps.size = a'.tmps.size := by
  cases dst <;> simp [Act.put]
theorem aput_defers (a' : Act) (dst : Option Tmp) (v : Value) : (a'.put dst v).defers = a'.defers := by
  cases dst <;> simp [Act.put]

theorem same_inj {m m' : Inj} {M : Mem} {w w' : World} (hR : Rel P base m' M w') (hF : Fr base m m' M M w w') : m' = m := by
  funext b
  cases hb : m b with
  | some L => exact hF.le b L hb
  | none =>
    cases hb' : m' b with
    | none => rfl
    | some L =>
      have h1 := hF.newid b L hb' hb
      have h2 := hR.fresh b L hb'
      omega

theorem closed_add {S : Nat → Bool} (hcl : Closed ops S) {j : Nat} {o : Oper} (ho : ops[j]? = some o) (hd : ∀ d ∈ depsOf o, S d = true) : Closed ops (fun i => S i || i == j) := by
  intro i oi hi hoi d hdi
  simp only [Bool.or_eq_true, beq_iff_eq] at hi ⊢
  left
  rcases hi with hi | hi
  · exact hcl i oi hi hoi d hdi
  · subst hi; rw [ho] at hoi; cases hoi; exact hd d hdi

theorem WF.uniq {n : Nat} {init : Nat → Value} {dn : List Ent} : WF P ops tbl n init dn → ∀ e ∈ dn, ∀ f ∈ dn, e.kind = 1 → f.kind = 1 → e.j ≠ f.j → e.b ≠ f.b := by
  induction dn with
  | nil => intro _ e he; simp at he
  | cons g dn ih =>
    intro h e he f hf hke hkf hne
    obtain ⟨_, h2, _, h4⟩ := h.cons
    rcases List.mem_cons.1 he with rfl | he' <;> rcases List.mem_cons.1 hf with rfl | hf'
    · exact absurd rfl hne
    · exact fun hh => (h2 f hf').2.2 hke hkf hh.symm
    · exact (h2 e he').2.2 hkf hke
    · exact ih h4 e he' f hf' hke hkf hne
theorem WF.uniqJ {n : Nat} {init : Nat → Value} {dn : List Ent} : WF P ops tbl n init dn → ∀ e ∈ dn, ∀ f ∈ dn, e.j = f.j → e = f := by
  induction dn with
  | nil => intro _ e he; simp at he
  | cons g dn ih =>
    intro h e he f hf hj
    obtain ⟨_, h2, _, h4⟩ := h.cons
    rcases List.mem_cons.1 he with rfl | he' <;> rcases List.mem_cons.1 hf with rfl | hf'
    · rfl
    · exact absurd hj.symm (h2 f hf').1
    · exact absurd hj (h2 e he').1
    · exact ih h4 e he' f hf' hj

/-- one that does not act is done -/
theorem Inv.float (hT : TblOK ops tbl) (hfine : ops.toList.all (fineOper P) = true) {S : Nat → Bool} {rest : List Nat} {dn pend : List Ent} {a : DAct} {M : Mem} {m : Inj} {w : World} {a' : Act}
    (hI : Inv P base ops tbl G a0 m0 M0 w0 S rest dn pend a M m w a') (hre : recheck P pend M = true) {e : Ent} (he : e ∈ dn) (hS : S e.j = false) (hdeps : ∀ d ∈ depsOf e.o, S d = true)
    {K : Act → World → Prop} {Q : Exit → Act → World → Prop}
    (hK : ∀ m' w' a1', Inv P base ops tbl G a0 m0 M0 w0 (fun i => S i || i == e.j) rest dn pend a M m' w' a1' → K a1' w') : wpOp P ops Q e.j K a' w := by
  obtain ⟨hoj, hej, hdst, hF⟩ := hI.wf.mem e he
  obtain ⟨hpend, hk2⟩ := hI.pendOK e he hS
  have hlooks : ∀ t ∈ e.o.looksAt ops, VRel m (e.a.tmp t) (a'.tmps.getD t undef) := fun t ht => by
    rw [← valOf_looks hT hI.closed hS hdeps ht hI.wf he]; exact hI.act t
  have hfo : fineOper P e.o = true := by
    rw [List.all_eq_true] at hfine
    have := Array.mem_of_getElem? hoj
    exact hfine _ (by simpa using this)
  have hwant := looks_wanted (o := e.o) (a := e.a) (a' := a') hlooks
  have hρ := looks_eval hI.rel hfo hlooks
  have hcl' := closed_add hI.closed hoj hdeps
  have hlt : ∀ d, e.o.dst = some d → d < a'.tmps.size := fun d hd => by rw [hI.size]; exact hdst d hd
  /- the step that is common -/
  have step : ∀ {m' : Inj} {w' : World} {v' : Value}, VRel m' e.v v' → Rel P base m' M w' → Fr base m0 m' M0 M w0 w' → m.le m' → (∀ f ∈ dn, f.kind = 1 → S f.j = false → f.j ≠ e.j → m' f.b = none) →
      K (a'.put e.o.dst v') w' := by
    intro m' w' v' hv hR' hF' hle hun
    refine hK m' w' _ ⟨hI.wf, hI.cur, hI.an, hI.aj, hI.ad, hI.small, (aput_size _ _ _).trans hI.size, fun t => ?_, by rw [aput_defers]; exact hI.defs.mono hle, hR', hF', fun f hf hSf => ?_, hI.made,
      fun f hf hk1 hSf => ?_, hcl', fun i hi => ?_, hI.covers, hI.stat⟩
    · rw [aput_get hlt, valOf_done hT hI.closed hS t hI.wf he]
      split
      · exact hv
      · exact (hI.act t).mono hle
    · simp only [Bool.or_eq_false_iff] at hSf
      exact hI.pendOK f hf hSf.1
    · simp only [Bool.or_eq_false_iff, beq_eq_false_iff_ne, ne_eq] at hSf
      exact ⟨hun f hf hk1 hSf.1 hSf.2, (hI.unmade f hf hk1 hSf.1).2⟩
    · have h1 := hI.restUn i hi
      have h2 := statGo_nodup hI.stat e.j (List.mem_map.2 ⟨e, he, rfl⟩)
      simp only [h1, Bool.false_or, beq_eq_false_iff_ne, ne_eq]
      intro hie; exact h2 (hie ▸ hi)
  unfold wpOp
  simp only [hoj]
  rcases hF with ⟨hk, hw, hko⟩ | ⟨hk, hw, hmade⟩ | hk | ⟨hk, hw, hv⟩ | ⟨hk, hw, hpure, M00, hop0⟩
  · rw [hwant, hw, if_pos rfl]
    left
    unfold recheck at hre
    try simp only [pinfo_eq, pund_eq, pfn_eq] at hre
    rw [List.all_eq_true] at hre
    have hre' := hre e hpend
    rw [hk] at hre'
    simp only at hre'
    split at hre'
    · rename_i v M' hop
      obtain ⟨rfl, _⟩ := reader_spec hko hop
      have hveq := veqN_eq _ _ _ hre'
      subst hveq
      obtain ⟨m', w', n, hrun, hn, hR', hFr⟩ := dOp_ok hI.rel hρ hop
      have hmm := same_inj hR' hFr
      subst hmm
      unfold Oper.wp
      rw [hrun]
      cases n <;> first | exact hn.elim | skip
      exact step hn hR' (hI.fr.trans hFr) (Inj.le_refl _) fun f hf hk1 hSf _ => (hI.unmade f hf hk1 hSf).1
    · cases hre'
  · rw [hwant, hw, if_pos rfl]
    left
    obtain ⟨hn, hg⟩ := hI.unmade e he hk hS
    obtain ⟨hb0, hb1⟩ := hI.made e he hk
    obtain ⟨cs', ee, v', hcs, hty, hrun, hval⟩ := hmade.run (w := w) hρ
    unfold Oper.wp
    rw [hrun]
    refine step (hval _ (Inj.le_set _ hn) (Inj.set_same _ _ _)) (hI.rel.adopt ee hty hb1 hn hg hcs) (hI.fr.adopt hn hb0 hI.rel.base _) (Inj.le_set _ hn) fun f hf hk1 hSf hne => ?_
    rw [Inj.set_ne _ _ (hI.wf.uniq f hf e he hk1 hk hne)]
    exact (hI.unmade f hf hk1 hSf).1
  · exact absurd hk hk2
  · rw [hwant, hw]
    simp only [Bool.false_eq_true, if_false]
    rw [hv] at step
    exact step (undef_rel m) hI.rel hI.fr (Inj.le_refl _) fun f hf hk1 hSf _ => (hI.unmade f hf hk1 hSf).1
  · rw [hwant, hw, if_pos rfl]
    left
    have hop := pure_spec hpure hop0 M
    obtain ⟨m', w', n, hrun, hn, hR', hFr⟩ := dOp_ok hI.rel hρ hop
    have hmm := same_inj hR' hFr
    subst hmm
    unfold Oper.wp
    rw [hrun]
    cases n <;> first | exact hn.elim | skip
    exact step hn hR' (hI.fr.trans hFr) (Inj.le_refl _) fun f hf hk1 hSf _ => (hI.unmade f hf hk1 hSf).1

/-- one that acts is done: it is the next in the order of the abstract machine -/
theorem Inv.effect (hT : TblOK ops tbl) (hfine : ops.toList.all (fineOper P) = true) (hC : COK P base C) {S : Nat → Bool} {j : Nat} {rest rest' : List Nat} {dn pend : List Ent} {a : DAct} {M : Mem} {m : Inj} {w : World} {a' : Act}
    {x : Exit} {a1 : DAct} {M1 : Mem} (hI : Inv P base ops tbl G a0 m0 M0 w0 S (j :: rest') dn pend a M m w a') (h : drun P C ops tbl fin (j :: rest) dn pend a M = some (x, a1, M1)) {o : Oper} (ho : ops[j]? = some o)
    (hk : kindOf o = 2) (hw : wantedD ops a o = true) (hdeps : ∀ d ∈ depsOf o, S d = true)
    {K : Act → World → Prop} {Q : Exit → Act → World → Prop}
    (hQ : ∀ x' a1' w1, Post P base m0 M0 w0 x a1 M1 x' a1' w1 → Q x' a1' w1)
    (hK : ∀ m' w' a1' pend' a2 M2 e, e.j = j → Inv P base ops tbl G a0 m0 M0 w0 (fun i => S i || i == j) rest' (e :: dn) pend' a2 M2 m' w' a1' →
      drun P C ops tbl fin rest (e :: dn) pend' a2 M2 = some (x, a1, M1) → K a1' w') : wpOp P ops Q j K a' w := by
  have hSj := hI.restUn j (by simp)
  obtain ⟨o', ho', hd, hn, hp, hst⟩ := statGo_cons hI.stat
  rw [ho] at ho'; cases ho'
  have hreachS : ∀ f ∈ dn, reach tbl j f.j = true → S f.j = true := fun f hf hr => by
    obtain ⟨oj, h1, h2⟩ := hT _ _ hr
    rw [ho] at h1; cases h1
    exact h2 S hI.closed hdeps
  have hlooks : ∀ t ∈ o.looksAt ops, VRel m (a.tmp t) (a'.tmps.getD t undef) := fun t ht => by
    rw [hI.cur t, ← valOf_congr (S := S) (S' := fun _ => true) (t := t) fun f hf hft => ?_]
    · exact hI.act t
    · obtain ⟨oi, h1, h2⟩ := hp f.j (List.mem_map.2 ⟨f, hf, rfl⟩)
      rw [(hI.wf.mem f hf).1] at h1; cases h1
      rcases h2 with h2 | h2
      · exact hreachS f hf h2
      · exact absurd ht ((Oper.apart_spec h2.2).1 t hft)
  have hfo : fineOper P o = true := by
    rw [List.all_eq_true] at hfine
    have := Array.mem_of_getElem? ho
    exact hfine _ (by simpa using this)
  have hwant := looks_wanted (o := o) (a := a) (a' := a') hlooks
  have hρ := looks_eval hI.rel hfo hlooks
  have hcl' := closed_add hI.closed ho hdeps
  unfold drun at h
  rw [ho] at h
  simp only [cond_eq_ite] at h
  split at h
  case isFalse => cases h
  rename_i hd0
  have hdst : ∀ d, o.dst = some d → d < a0.n := by
    intro d hd
    unfold dstOk at hd0
    try simp only [pinfo_eq, pund_eq, pfn_eq] at hd0
    rw [hd] at hd0
    rw [← hI.an]
    simpa [Nat.blt_eq] using hd0
  have hlt : ∀ d, o.dst = some d → d < a'.tmps.size := fun d hd => by rw [hI.size]; exact hdst d hd
  rw [hw, hk] at h
  simp only at h
  split at h
  case isFalse => cases h
  /- the step that is common -/
  have step : ∀ {m' : Inj} {w' : World} {M' : Mem} {v v' : Value}, VRel m' v v' → Rel P base m' M' w' → Fr base m m' M M' w w' →
      drun P C ops tbl fin rest (⟨j, o, a, v, 2, 0, [], 0⟩ :: dn) (pend.filter fun e => !reach tbl j e.j) (a.put o.dst v) M' = some (x, a1, M1) → K (a'.put o.dst v') w' := by
    intro m' w' M' v v' hv hR' hF' hrun
    have hvS : ∀ t, valOf (fun i => S i || i == j) a0.tmp dn t = valOf S a0.tmp dn t := fun t => valOf_congr fun f hf _ => by
      have : f.j ≠ j := fun hh => hn (hh ▸ List.mem_map.2 ⟨f, hf, rfl⟩)
      simp [this]
    refine hK m' w' _ _ _ _ ⟨j, o, a, v, 2, 0, [], 0⟩ rfl ⟨⟨⟨ho, hI.aj, hI.cur, hdst, .inr (.inr (.inl rfl))⟩, fun f hf => ?_, fun d hdd => ?_, hI.wf⟩, fun t => ?_, (put_n _ _ _).trans hI.an, (put_junk _ _ _).trans hI.aj,
      (put_defers _ _ _).trans hI.ad, hI.small, (aput_size _ _ _).trans hI.size, fun t => ?_, by rw [aput_defers]; exact hI.defs.mono hF'.le, hR', hI.fr.trans hF', fun f hf hSf => ?_, fun f hf hk1 => ?_,
      fun f hf hk1 hSf => ?_, hcl', fun i hi => ?_, fun i hi => ?_, hst⟩ hrun
    · have hfj : f.j ∈ dn.map (·.j) := List.mem_map.2 ⟨f, hf, rfl⟩
      refine ⟨fun he => hn (by have he' : f.j = j := he; rw [← he']; exact hfj), ?_, fun h1 => by cases h1⟩
      obtain ⟨oi, h1, h2⟩ := hp f.j hfj
      rw [(hI.wf.mem f hf).1] at h1; cases h1
      rcases h2 with h2 | h2
      · exact .inl h2
      · exact .inr h2.2
    · obtain ⟨f, h1, h2⟩ := List.mem_map.1 (hd d hdd)
      exact ⟨f, h1, h2⟩
    · rw [put_tmp v (by rw [hI.an]; exact hdst) (by rw [hI.an]; exact hI.small) t, hI.cur t]
      simp [valOf]
    · rw [aput_get hlt]
      simp only [valOf, hvS, hSj, beq_self_eq_true, Bool.or_true, true_and]
      split
      · exact hv
      · exact (hI.act t).mono hF'.le
    · simp only [Bool.or_eq_false_iff, beq_eq_false_iff_ne, ne_eq] at hSf
      rcases List.mem_cons.1 hf with rfl | hf
      · exact absurd rfl hSf.2
      · obtain ⟨h1, h2⟩ := hI.pendOK f hf hSf.1
        refine ⟨List.mem_filter.2 ⟨h1, ?_⟩, h2⟩
        cases hr : reach tbl j f.j with
        | false => rfl
        | true => rw [hreachS f hf hr] at hSf; exact absurd hSf.1 (by simp)
    · rcases List.mem_cons.1 hf with rfl | hf
      · cases hk1
      · have := hI.made f hf hk1
        have := hF'.next
        omega
    · simp only [Bool.or_eq_false_iff, beq_eq_false_iff_ne, ne_eq] at hSf
      rcases List.mem_cons.1 hf with rfl | hf
      · cases hk1
      · obtain ⟨h1, h2⟩ := hI.unmade f hf hk1 hSf.1
        have hlt := (hI.made f hf hk1).2
        refine ⟨?_, (hF'.keepM _ hlt h1).trans h2⟩
        cases hmb : m' f.b with
        | none => rfl
        | some L => have := hF'.newid _ L hmb h1; omega
    · have h1 := hI.restUn i (by simp [hi])
      have h2 := statGo_nodup hst j (by simp)
      simp only [h1, Bool.false_or, beq_eq_false_iff_ne, ne_eq]
      intro hie; exact h2 (hie ▸ hi)
    · rcases hI.covers i hi with h | ⟨e, h1, h2⟩
      · rcases List.mem_cons.1 h with rfl | h
        · exact .inr ⟨_, List.mem_cons_self, rfl⟩
        · exact .inl h
      · exact .inr ⟨e, by simp [h1], h2⟩
  have stop : ∀ {m' : Inj} {w' : World} {M' : Mem} {ch ch' : List PanicEntry}, ChRel m' ch ch' → Rel P base m' M' w' → Fr base m m' M M' w w' →
      some (Exit.panic ch, { a with junk := dn.filterMap (·.o.dst) }, M') = some (x, a1, M1) → Q (.panic ch') a' w' := by
    intro m' w' M' ch ch' hch hR' hF' hh
    simp only [Option.some.injEq, Prod.mk.injEq] at hh
    obtain ⟨rfl, rfl, rfl⟩ := hh
    refine hQ _ _ _ ⟨m', hch, ⟨hI.size.trans hI.an.symm, by rw [hI.an]; exact hI.small, fun t ht => ?_, by rw [hI.ad]; exact hI.defs.mono hF'.le⟩, hR', hI.fr.trans hF'⟩
    have : a.tmp t = valOf S a0.tmp dn t := by
      rw [hI.cur t]
      refine valOf_congr fun f hf hft => ?_
      exact absurd (List.mem_filterMap.2 ⟨f, hf, hft⟩) ht
    show VRel m' (a.tmp t) _
    rw [this]
    exact (hI.act t).mono hF'.le
  unfold wpOp
  simp only [ho]
  rw [hwant, hw, if_pos rfl]
  left
  unfold Oper.wp
  cases hop : dOp P o a.eval M with
  | none => rw [hop] at h; cases h
  | some p =>
    obtain ⟨r, M'⟩ := p
    rw [hop] at h
    have hok := dOp_ok hI.rel hρ hop
    cases r with
    | val v =>
      obtain ⟨m', w', n, hrun, hn, hR', hF'⟩ := hok
      rw [hrun]
      cases n <;> first | exact hn.elim | skip
      exact step hn hR' hF' h
    | skip =>
      obtain ⟨m', w', n, hrun, hn, hR', hF'⟩ := hok
      rw [hrun]
      cases n <;> first | exact hn.elim | skip
      exact step (undef_rel m') hR' hF' h
    | enter f args =>
      obtain ⟨m', w', n, hrun, hn, hR', hF'⟩ := hok
      rw [hrun]
      cases n <;> first | exact hn.elim | skip
      rename_i f' args'
      obtain ⟨rfl, hargs⟩ := hn
      simp only at h
      cases hc : C.call f' args M' with
      | none => rw [hc] at h; cases h
      | some p =>
        obtain ⟨r, M''⟩ := p
        rw [hc] at h
        refine (hC.call hc hargs hR').mono fun e w'' ⟨m'', he, hR'', hF''⟩ => ?_
        cases r with
        | ret v =>
          cases e <;> first | exact he.elim | skip
          exact step he hR'' (hF'.trans hF'') h
        | pan ch =>
          cases e <;> first | exact he.elim | skip
          exact stop he hR'' (hF'.trans hF'') h
    | comm v => cases h
    | defer d => cases h
    | recov => cases h
    | panic v =>
      obtain ⟨m', w', v', hrun, hv, hR', hF'⟩ := hok
      rw [hrun]
      exact stop (ch := [{ v, recovered := false }]) (ch' := [{ v := v', recovered := false }]) ⟨⟨hv, rfl, rfl⟩, trivial⟩ hR' hF' h
end
end Go.Ab
