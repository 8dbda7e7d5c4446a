/- Regions that draw their order, second part: the invariant, and the theorem. -/
import Derived.Test.YtjlbdefkkhfhaaaGreatDoorAbDraw
namespace Go.Ab
open Go
noncomputable section

/-! ## masks -/
def Closed (ops : Array Oper) (S : Nat → Bool) : Prop := ∀ j o, S j = true → ops[j]? = some o → ∀ d ∈ depsOf o, S d = true
def TblOK (ops : Array Oper) (tbl : List (Nat × Nat)) : Prop :=
  ∀ j i, reach tbl j i = true → ∃ o, ops[j]? = some o ∧ ∀ S, Closed ops S → (∀ d ∈ depsOf o, S d = true) → S i = true

theorem maskFrom_bit {tbl : List (Nat × Nat)} {i : Nat} : ∀ {ds : List Nat}, (maskFrom tbl ds).testBit i = true → ∃ d ∈ ds, i = d ∨ (lookMask tbl d).testBit i = true
  | [], h => by simp [maskFrom] at h
  | d :: ds, h => by
    simp only [maskFrom, Nat.testBit_or, Bool.or_eq_true] at h
    rcases h with (h | h) | h
    · rw [Nat.testBit_two_pow, decide_eq_true_eq] at h
      exact ⟨d, by simp, .inl h.symm⟩
    · exact ⟨d, by simp, .inr h⟩
    · obtain ⟨d', h1, h2⟩ := maskFrom_bit h
      exact ⟨d', by simp [h1], h2⟩

theorem masks_ok (ops : Array Oper) : ∀ (js : List Nat) (tbl : List (Nat × Nat)), TblOK ops tbl → TblOK ops (masks ops js tbl)
  | [], _, h => h
  | j :: js, tbl, h => by
    unfold masks
    cases ho : ops[j]? with
    | none => exact masks_ok ops js tbl h
    | some o =>
      refine masks_ok ops js _ fun j' i hr => ?_
      unfold reach at hr
      try simp only [pinfo_eq, pund_eq, pfn_eq] at hr
      simp only [lookMask, cond_eq_ite, Nat.beq_eq] at hr
      split at hr
      · rename_i hj
        subst hj
        refine ⟨o, ho, fun S hS hd => ?_⟩
        obtain ⟨d, hd1, hd2⟩ := maskFrom_bit hr
        rcases hd2 with rfl | hd2
        · exact hd _ hd1
        · obtain ⟨od, h1, h2⟩ := h d i hd2
          exact h2 S hS (hS d od (hd d hd1) h1)
      · exact h j' i hr

/-! ## the values that have been put -/
def valOf (S : Nat → Bool) (init : Nat → Value) : List Ent → Nat → Value
  | [], t => init t
  | e :: dn, t => if S e.j = true ∧ e.o.dst = some t then e.v else valOf S init dn t

def Facts (P : Program) (ops : Array Oper) (e : Ent) : Prop :=
  (e.kind = 0 ∧ wantedD ops e.a e.o = true ∧ kindOf e.o = 0) ∨
  (e.kind = 1 ∧ wantedD ops e.a e.o = true ∧ Made P e.o e.a.eval e.v e.b e.cs e.es) ∨
  e.kind = 2 ∨ (e.kind = 3 ∧ wantedD ops e.a e.o = false ∧ e.v = undef) ∨
  (e.kind = 4 ∧ wantedD ops e.a e.o = true ∧ pureAt e.o e.a.eval = true ∧ ∃ M0, dOp P e.o e.a.eval M0 = some (.val e.v, M0))

def WF (P : Program) (ops : Array Oper) (tbl : List (Nat × Nat)) (n : Nat) (init : Nat → Value) : List Ent → Prop
  | [] => True
  | e :: older => (ops[e.j]? = some e.o ∧ e.a.junk = [] ∧ (∀ t, e.a.tmp t = valOf (fun _ => true) init older t) ∧ (∀ d, e.o.dst = some d → d < n) ∧ Facts P ops e) ∧
      (∀ f ∈ older, f.j ≠ e.j ∧ (reach tbl e.j f.j = true ∨ Oper.apart ops f.o e.o = true) ∧ (e.kind = 1 → f.kind = 1 → f.b ≠ e.b)) ∧
      (∀ d ∈ depsOf e.o, ∃ f ∈ older, f.j = d) ∧ WF P ops tbl n init older

section
variable {P : Program} {base : Nat} {ops : Array Oper} {tbl : List (Nat × Nat)} {G : List Nat} {n : Nat} {init : Nat → Value}

theorem valOf_congr {S S' : Nat → Bool} {t : Nat} : ∀ {dn : List Ent}, (∀ e ∈ dn, e.o.dst = some t → S e.j = S' e.j) → valOf S init dn t = valOf S' init dn t
  | [], _ => rfl
  | e :: dn, h => by
    have ih := valOf_congr (S := S) (S' := S') (t := t) (dn := dn) fun f hf => h f (by simp [hf])
    simp only [valOf]
    by_cases hd : e.o.dst = some t
    · rw [h e (by simp) hd, ih]
    · simp [hd, ih]

theorem WF.cons {e : Ent} {older : List Ent} (h : WF P ops tbl n init (e :: older)) :
    (ops[e.j]? = some e.o ∧ e.a.junk = [] ∧ (∀ t, e.a.tmp t = valOf (fun _ => true) init older t) ∧ (∀ d, e.o.dst = some d → d < n) ∧ Facts P ops e) ∧
      (∀ f ∈ older, f.j ≠ e.j ∧ (reach tbl e.j f.j = true ∨ Oper.apart ops f.o e.o = true) ∧ (e.kind = 1 → f.kind = 1 → f.b ≠ e.b)) ∧
      (∀ d ∈ depsOf e.o, ∃ f ∈ older, f.j = d) ∧ WF P ops tbl n init older := h

theorem WF.mem {dn : List Ent} : WF P ops tbl n init dn → ∀ e ∈ dn, ops[e.j]? = some e.o ∧ e.a.junk = [] ∧ (∀ d, e.o.dst = some d → d < n) ∧ Facts P ops e := by
  induction dn with
  | nil => intro _ e he; simp at he
  | cons f dn ih =>
    intro h e he
    obtain ⟨h1, h2, h3, h4⟩ := h.cons
    rcases List.mem_cons.1 he with rfl | he
    · exact ⟨h1.1, h1.2.1, h1.2.2.2.1, h1.2.2.2.2⟩
    · exact ih h4 e he

/-- after one more is done -/
theorem valOf_done (hT : TblOK ops tbl) {S : Nat → Bool} (hcl : Closed ops S) {e : Ent} (hS : S e.j = false) (t : Nat) {dn : List Ent} : WF P ops tbl n init dn → e ∈ dn →
    valOf (fun j => S j || j == e.j) init dn t = if e.o.dst = some t then e.v else valOf S init dn t := by
  induction dn with
  | nil => intro _ he; simp at he
  | cons f dn ih0 =>
    intro h he
    obtain ⟨h1, h2, h3, h4⟩ := h.cons
    rcases List.mem_cons.1 he with rfl | he'
    · have hc : valOf (fun j => S j || j == e.j) init dn t = valOf S init dn t := valOf_congr fun g hg _ => by
        have := (h2 g hg).1
        simp [this]
      simp only [valOf, hc, hS, Bool.or_eq_true, beq_self_eq_true, or_true, true_and, Bool.false_eq_true, false_and, if_false]
    · have ih := ih0 h4 he'
      obtain ⟨hne, hr, _⟩ := h2 e he'
      have hfe : (S f.j || f.j == e.j) = S f.j := by simp [Ne.symm hne]
      simp only [valOf, hfe, ih]
      by_cases hc : S f.j = true ∧ f.o.dst = some t
      · rw [if_pos hc, if_pos hc]
        rw [if_neg]
        intro hd
        rcases hr with hr | hr
        · obtain ⟨of, ho, hh⟩ := hT _ _ hr
          have := hh S hcl (hcl f.j of hc.1 ho)
          rw [hS] at this; cases this
        · exact (Oper.apart_spec hr).2.1 t hd hc.2
      · rw [if_neg hc, if_neg hc]

/-- what an operation looks at is as it was found -/
theorem valOf_looks (hT : TblOK ops tbl) {S : Nat → Bool} (hcl : Closed ops S) {e : Ent} (hS : S e.j = false) (hdeps : ∀ d ∈ depsOf e.o, S d = true) {t : Nat} (ht : t ∈ e.o.looksAt ops) {dn : List Ent} :
    WF P ops tbl n init dn → e ∈ dn → valOf S init dn t = e.a.tmp t := by
  induction dn with
  | nil => intro _ he; simp at he
  | cons f dn ih0 =>
    intro h he
    obtain ⟨h1, h2, h3, h4⟩ := h.cons
    rcases List.mem_cons.1 he with rfl | he'
    · rw [h1.2.2.1 t]
      simp only [valOf, hS, Bool.false_eq_true, false_and, if_false]
      refine valOf_congr fun g hg hd => ?_
      obtain ⟨_, hr, _⟩ := h2 g hg
      rcases hr with hr | hr
      · obtain ⟨oe, ho, hh⟩ := hT _ _ hr
        rw [h1.1] at ho; cases ho
        exact hh S hcl hdeps
      · exact absurd ht ((Oper.apart_spec hr).1 t hd)
    · have ih := ih0 h4 he'
      obtain ⟨hne, hr, _⟩ := h2 e he'
      simp only [valOf]
      rw [if_neg, ih]
      intro hc
      rcases hr with hr | hr
      · obtain ⟨of, ho, hh⟩ := hT _ _ hr
        have := hh S hcl (hcl f.j of hc.1 ho)
        rw [hS] at this; cases this
      · exact (Oper.apart_spec hr).2.2 t hc.2 ht

/-! ## operands and guards by what is looked at -/
theorem looks_eval {m : Inj} {M : Mem} {w : World} (hR : Rel P base m M w) {o : Oper} (hfo : fineOper P o = true) {a : DAct} {a' : Act}
    (ht : ∀ t ∈ o.looksAt ops, VRel m (a.tmp t) (a'.tmps.getD t undef)) : ∀ x ∈ o.op.operands, VRel m (a.eval x) (a'.eval x) := by
  intro x hx
  unfold fineOper at hfo
  try simp only [pinfo_eq, pund_eq, pfn_eq] at hfo
  rw [List.all_eq_true] at hfo
  have hfx := hfo x (by simpa using hx)
  cases x with
  | tmp i =>
    refine ht i ?_
    unfold Oper.looksAt
    rw [List.mem_append]
    left
    rw [List.mem_filterMap]
    exact ⟨.tmp i, by simpa using hx, rfl⟩
  | const v => exact flat_rel hfx
  | global g =>
    have hg : g < P.globals.size := by simpa [fineOperand, Nat.blt_eq] using hfx
    exact VRel.ptr (m := m) (b := g) (o := 0) (hR.low g hg)
  | func f => exact .func .nil .nil

theorem looks_wanted {m : Inj} {o : Oper} {a : DAct} {a' : Act} (ht : ∀ t ∈ o.looksAt ops, VRel m (a.tmp t) (a'.tmps.getD t undef)) :
    Region.wanted o (yielded ops a'.tmps) = wantedD ops a o := by
  unfold Region.wanted wantedD
  cases hg : o.guard with
  | none => rfl
  | some g =>
    obtain ⟨j, w⟩ := g
    simp only [yielded, yieldedD]
    cases hd : (ops[j]?).bind (·.dst) with
    | none => rfl
    | some d =>
      have ht := ht d (by unfold Oper.looksAt; rw [List.mem_append]; right; simp [hg, hd])
      simp only [Option.bind_some]
      rw [Array.getD_eq_getD_getElem?] at ht
      generalize a.tmp d = v at ht
      cases hv : a'.tmps[d]? with
      | none =>
        rw [hv] at ht
        cases ht <;> first | rfl | (rename_i h1; cases h1)
      | some v' =>
        rw [hv] at ht
        simp only [Option.getD_some] at ht
        cases ht <;> first | rfl | (rename_i h1; cases v' <;> first | rfl | (cases h1; done))

/-! ## the invariant -/
structure Inv (P : Program) (base : Nat) (ops : Array Oper) (tbl : List (Nat × Nat)) (G : List Nat) (a0 : DAct) (m0 : Inj) (M0 : Mem) (w0 : World)
    (S : Nat → Bool) (rest : List Nat) (dn pend : List Ent) (a : DAct) (M : Mem) (m : Inj) (w : World) (a' : Act) : Prop where
  wf : WF P ops tbl a0.n a0.tmp dn
  cur : ∀ t, a.tmp t = valOf (fun _ => true) a0.tmp dn t
  an : a.n = a0.n
  aj : a.junk = []
  ad : a.defers = a0.defers
  small : a0.n ≤ 4294967296
  size : a'.tmps.size = a0.n
  act : ∀ t : Nat, VRel m (valOf S a0.tmp dn t) (a'.tmps.getD t undef)
  defs : DsRel m a0.defers a'.defers
  rel : Rel P base m M w
  fr : Fr base m0 m M0 M w0 w
  pendOK : ∀ e ∈ dn, S e.j = false → e ∈ pend ∧ e.kind ≠ 2
  made : ∀ e ∈ dn, e.kind = 1 → M0.next ≤ e.b ∧ e.b < M.next
  unmade : ∀ e ∈ dn, e.kind = 1 → S e.j = false → m e.b = none ∧ M.get e.b = some (.cells e.cs e.es false false false)
  closed : Closed ops S
  restUn : ∀ j ∈ rest, S j = false
  covers : ∀ j, j < ops.size → j ∈ rest ∨ ∃ e ∈ dn, e.j = j
  stat : statGo ops tbl G (dn.map (·.j)) rest = true

def Stuck (ops : Array Oper) (rest : List Nat) (a : DAct) : Prop :=
  match rest with
  | [] => True
  | j :: _ => ∃ o, ops[j]? = some o ∧ kindOf o = 2 ∧ wantedD ops a o = true

def todo (S : Nat → Bool) (dn : List Ent) (rest : List Nat) : Nat := (dn.filter fun e => !S e.j).length + rest.length

theorem put_n (a : DAct) (dst : Option Tmp) (v : Value) : (a.put dst v).n = a.n := by
  cases dst with
  | none => rfl
  | some d => simp only [DAct.put_some, cond_eq_ite]; split <;> rfl
theorem put_defers (a : DAct) (dst : Option Tmp) (v : Value) : (a.put dst v).defers = a.defers := by
  cases dst with
  | none => rfl
  | some d => simp only [DAct.put_some, cond_eq_ite]; split <;> rfl
theorem put_tmp {a : DAct} {dst : Option Tmp} (v : Value) (hd : ∀ d, dst = some d → d < a.n) (hs : a.n ≤ 4294967296) (t : Nat) : (a.put dst v).tmp t = if dst = some t then v else a.tmp t := by
  cases dst with
  | none => simp [DAct.put_none]
  | some d =>
    have hlt := hd d rfl
    have hall : ∀ x : Nat, x < a.n → x + 1 < 2 ^ depth := by
      intro x hx; unfold depth; omega
    have hb : Nat.blt d a.n = true := by rw [Nat.blt_eq]; exact hlt
    simp only [DAct.put_some, hb, cond_true, DAct.tmp, Option.some.injEq]
    by_cases h : d = t
    · subst h; rw [Tr.get_set_same _ _ _ _ (hall _ hlt)]; simp
    · rw [Tr.get_set_ne _ _ _ _ _ (Ne.symm h), if_neg h]

theorem memN_iff {j : Nat} : ∀ {l : List Nat}, memN j l = true ↔ j ∈ l
  | [] => by
    show false = true ↔ _
    simp
  | a :: l => by
    have ih := memN_iff (j := j) (l := l)
    show Bool.rec (motive := fun _ => Bool) (memN j l) true (Nat.beq a j) = true ↔ _
    cases h : Nat.beq a j with
    | true => simp [Nat.eq_of_beq_eq_true h]
    | false =>
      have hne : j ≠ a := fun e => by rw [e, show Nat.beq a a = true from Nat.beq_refl a] at h; cases h
      show memN j l = true ↔ _
      rw [ih]
      simp [hne]

theorem statGo_cons {pre : List Nat} {j : Nat} {rest : List Nat} (h : statGo ops tbl G pre (j :: rest) = true) :
    ∃ o, ops[j]? = some o ∧ (∀ d ∈ depsOf o, d ∈ pre) ∧ j ∉ pre ∧ (∀ i ∈ pre, ∃ oi, ops[i]? = some oi ∧ (reach tbl j i = true ∨ ((kindOf oi ≠ 2 ∨ (i ∈ G ∧ j ∈ G)) ∧ Oper.apart ops oi o = true))) ∧
      statGo ops tbl G (j :: pre) rest = true := by
  unfold statGo at h
  try simp only [pinfo_eq, pund_eq, pfn_eq] at h
  split at h
  · rename_i o ho
    simp only [Bool.and_eq_true, List.all_eq_true, memN_iff, Bool.not_eq_true'] at h
    obtain ⟨⟨⟨h1, h2⟩, h3⟩, h4⟩ := h
    refine ⟨o, ho, h1, (fun hm => by rw [memN_iff.2 hm] at h2; cases h2), fun i hi => ?_, h4⟩
    have := h3 i hi
    split at this
    · rename_i oi hoi
      refine ⟨oi, hoi, ?_⟩
      simp only [Bool.or_eq_true, Bool.and_eq_true, Bool.not_eq_true', memN_iff] at this
      rcases this with h | ⟨h, h'⟩
      · exact .inl h
      · refine .inr ⟨h.imp (fun h he => ?_) id, h'⟩
        rw [he] at h; cases h
    · cases this
  · cases h

theorem statGo_later : ∀ {rest pre : List Nat}, statGo ops tbl G pre rest = true → ∀ e0 ∈ pre, e0 ∉ G → ∀ {o0 : Oper}, ops[e0]? = some o0 → kindOf o0 = 2 → ∀ i ∈ rest, reach tbl i e0 = true ∧ i ≠ e0
  | [], _, _, _, _, _, _, _, _, i, hi => by simp at hi
  | j :: rest, pre, h, e0, he, hG, o0, ho0, hk, i, hi => by
    obtain ⟨o, ho, hd, hn, hp, h'⟩ := statGo_cons h
    rcases List.mem_cons.1 hi with rfl | hi
    · obtain ⟨oi, h1, h2⟩ := hp e0 he
      rw [ho0] at h1; cases h1
      exact ⟨h2.resolve_right fun h => h.1.elim (fun h => h hk) (fun h => hG h.1), fun h => hn (h ▸ he)⟩
    · exact statGo_later h' e0 (by simp [he]) hG ho0 hk i hi

theorem statGo_nodup : ∀ {rest pre : List Nat}, statGo ops tbl G pre rest = true → ∀ e0 ∈ pre, e0 ∉ rest
  | [], _, _, _, _ => by simp
  | j :: rest, pre, h, e0, he => by
    obtain ⟨o, ho, hd, hn, hp, h'⟩ := statGo_cons h
    intro hm
    rcases List.mem_cons.1 hm with rfl | hm
    · exact hn he
    · exact statGo_nodup h' e0 (by simp [he]) hm

variable {C : Callers} {fin : List Ent → List Ent → DAct → Mem → Option (Exit × DAct × Mem)} {a0 : DAct} {m0 : Inj} {M0 : Mem} {w0 : World}

/-- a float at the head of what is left is taken: the world stays -/
theorem Inv.advance1 {S : Nat → Bool} {j : Nat} {rest : List Nat} {dn pend : List Ent} {a : DAct} {M M' : Mem} {m : Inj} {w : World} {a' : Act}
    (hI : Inv P base ops tbl G a0 m0 M0 w0 S (j :: rest) dn pend a M m w a') {o : Oper} (ho : ops[j]? = some o) (hdst : ∀ d, o.dst = some d → d < a.n) {v : Value} {k b : Nat} {cs : List Value} {es : Nat}
    (hk : k ≠ 2) (hF : Facts P ops ⟨j, o, a, v, k, b, cs, es⟩) (hrel : Rel P base m M' w) (hfr : Fr base m m M M' w w)
    (hnew : k = 1 → b = M.next ∧ M'.next = M.next + 1 ∧ m b = none ∧ M'.get b = some (.cells cs es false false false)) :
    Inv P base ops tbl G a0 m0 M0 w0 S rest (⟨j, o, a, v, k, b, cs, es⟩ :: dn) (⟨j, o, a, v, k, b, cs, es⟩ :: pend) (a.put o.dst v) M' m w a' := by
  have hSj := hI.restUn j (by simp)
  obtain ⟨o', ho', hd, hn, hp, hst⟩ := statGo_cons hI.stat
  rw [ho] at ho'; cases ho'
  refine ⟨⟨⟨ho, hI.aj, hI.cur, fun d hd => by rw [← hI.an]; exact hdst d hd, hF⟩, fun f hf => ?_, fun d hdd => ?_, hI.wf⟩, fun t => ?_, (put_n _ _ _).trans hI.an, (put_junk _ _ _).trans hI.aj,
    (put_defers _ _ _).trans hI.ad, hI.small, hI.size, fun t => ?_, hI.defs, hrel, hI.fr.trans hfr, fun e he hS => ?_, fun e he hk1 => ?_, fun e he hk1 hS => ?_, hI.closed,
    fun i hi => hI.restUn i (by simp [hi]), fun i hi => ?_, hst⟩
  · have hfj : f.j ∈ dn.map (·.j) := List.mem_map.2 ⟨f, hf, rfl⟩
    refine ⟨fun he => hn (by have he' : f.j = j := he; rw [← he']; exact hfj), ?_, fun h1 h2 => ?_⟩
    · obtain ⟨oi, h1, h2⟩ := hp f.j hfj
      rw [(hI.wf.mem f hf).1] at h1; cases h1
      rcases h2 with h2 | h2
      · exact .inl h2
      · exact .inr h2.2
    · have := (hI.made f hf h2).2
      have := (hnew h1).1
      simp only; omega
  · obtain ⟨f, h1, h2⟩ := List.mem_map.1 (hd d hdd)
    exact ⟨f, h1, h2⟩
  · rw [put_tmp v hdst (by rw [hI.an]; exact hI.small) t, hI.cur t]
    simp [valOf]
  · simp only [valOf, hSj, Bool.false_eq_true, false_and, if_false]
    exact hI.act t
  · rcases List.mem_cons.1 he with rfl | he
    · exact ⟨by simp, hk⟩
    · obtain ⟨h1, h2⟩ := hI.pendOK e he hS
      exact ⟨by simp [h1], h2⟩
  · rcases List.mem_cons.1 he with rfl | he
    · obtain ⟨h1, h2, _⟩ := hnew hk1
      have := hI.fr.next
      simp only; omega
    · have := hI.made e he hk1
      have := hfr.next
      omega
  · rcases List.mem_cons.1 he with rfl | he
    · obtain ⟨h1, h2, h3, h4⟩ := hnew hk1
      exact ⟨h3, h4⟩
    · obtain ⟨h1, h2⟩ := hI.unmade e he hk1 hS
      exact ⟨h1, (hfr.keepM _ (hI.made e he hk1).2 h1).trans h2⟩
  · rcases hI.covers i hi with h | ⟨e, h1, h2⟩
    · rcases List.mem_cons.1 h with rfl | h
      · exact .inr ⟨_, List.mem_cons_self, rfl⟩
      · exact .inl h
    · exact .inr ⟨e, by simp [h1], h2⟩

theorem advance {T : List Nat} : ∀ {rest : List Nat} {S : Nat → Bool} {dn pend : List Ent} {a : DAct} {M : Mem} {m : Inj} {w : World} {a' : Act} {res : Exit × DAct × Mem},
    Inv P base ops tbl G a0 m0 M0 w0 S (rest ++ T) dn pend a M m w a' → drun P C ops tbl fin rest dn pend a M = some res →
    ∃ rest' dn' pend' a1 M1, Inv P base ops tbl G a0 m0 M0 w0 S (rest' ++ T) dn' pend' a1 M1 m w a' ∧ drun P C ops tbl fin rest' dn' pend' a1 M1 = some res ∧ Stuck ops rest' a1 ∧ todo S dn' (rest' ++ T) = todo S dn (rest ++ T) ∧
      rest'.reverse ++ dn'.map (·.j) = rest.reverse ++ dn.map (·.j) ∧ (∀ j ∈ rest', j ∈ rest)
  | [], S, dn, pend, a, M, m, w, a', res, hI, h => ⟨[], dn, pend, a, M, hI, h, trivial, rfl, rfl, fun _ h => h⟩
  | j :: rest, S, dn, pend, a, M, m, w, a', res, hI, h => by
    have hSj := hI.restUn j (by simp)
    have htodo : ∀ (e : Ent), e.j = j → todo S (e :: dn) (rest ++ T) = todo S dn (j :: rest ++ T) := by
      intro e he
      simp only [todo, List.filter_cons, he, hSj, Bool.not_false, if_true, List.length_cons, List.cons_append]
      omega
    have hord : ∀ (e : Ent), e.j = j → ∀ {r1 : List Nat} {d1 : List Ent}, r1.reverse ++ d1.map (·.j) = rest.reverse ++ (e :: dn).map (·.j) → r1.reverse ++ d1.map (·.j) = (j :: rest).reverse ++ dn.map (·.j) := by
      intro e he r1 d1 h
      rw [h]; simp [he]
    have h0 := h
    unfold drun at h
    cases ho : ops[j]? with
    | none => rw [ho] at h; cases h
    | some o =>
      rw [ho] at h
      simp only [cond_eq_ite] at h
      split at h
      case isFalse => cases h
      rename_i hd0
      have hdst : ∀ d, o.dst = some d → d < a.n := by
        intro d hd
        unfold dstOk at hd0
        try simp only [pinfo_eq, pund_eq, pfn_eq] at hd0
        rw [hd] at hd0
        simpa [Nat.blt_eq] using hd0
      cases hw : wantedD ops a o with
      | false =>
        rw [hw] at h
        simp only at h
        have hI' := hI.advance1 (v := undef) (k := 3) (b := 0) (cs := []) (es := 0) ho hdst (by decide) (.inr (.inr (.inr (.inl ⟨rfl, hw, rfl⟩)))) hI.rel (Fr.refl _ _ _ _) (fun h => by cases h)
        obtain ⟨r1, d1, p1, a1, M1, q1, q2, q3, q4, q5, q6⟩ := advance hI' h
        exact ⟨r1, d1, p1, a1, M1, q1, q2, q3, q4.trans (htodo _ rfl), hord _ rfl q5, fun j hj => List.mem_cons_of_mem _ (q6 j hj)⟩
      | true =>
        rw [hw] at h
        simp only at h
        split at h
        · rename_i hk
          cases hop : dOp P o a.eval M with
          | none => rw [hop] at h; cases h
          | some p =>
            obtain ⟨r, M'⟩ := p
            rw [hop] at h
            cases r <;> first | (cases h; done) | skip
            rename_i v
            simp only at h
            obtain ⟨rfl, _⟩ := reader_spec hk hop
            split at h
            · rename_i hp
              have hI' := hI.advance1 (v := v) (k := 4) (b := 0) (cs := []) (es := 0) ho hdst (by decide) (.inr (.inr (.inr (.inr ⟨rfl, hw, hp, _, hop⟩)))) hI.rel (Fr.refl _ _ _ _) (fun h => by cases h)
              obtain ⟨r1, d1, p1, a1, M1, q1, q2, q3, q4, q5, q6⟩ := advance hI' h
              exact ⟨r1, d1, p1, a1, M1, q1, q2, q3, q4.trans (htodo _ rfl), hord _ rfl q5, fun j hj => List.mem_cons_of_mem _ (q6 j hj)⟩
            · have hI' := hI.advance1 (v := v) (k := 0) (b := 0) (cs := []) (es := 0) ho hdst (by decide) (.inl ⟨rfl, hw, hk⟩) hI.rel (Fr.refl _ _ _ _) (fun h => by cases h)
              obtain ⟨r1, d1, p1, a1, M1, q1, q2, q3, q4, q5, q6⟩ := advance hI' h
              exact ⟨r1, d1, p1, a1, M1, q1, q2, q3, q4.trans (htodo _ rfl), hord _ rfl q5, fun j hj => List.mem_cons_of_mem _ (q6 j hj)⟩
        · rename_i hk
          cases hop : dOp P o a.eval M with
          | none => rw [hop] at h; cases h
          | some p =>
            obtain ⟨r, M'⟩ := p
            rw [hop] at h
            obtain ⟨v, cs, es, rfl, hnw, hmade⟩ := maker_spec hk hop
            simp only at h
            obtain ⟨hnone, hrel, hfr⟩ := hI.rel.grow hnw
            obtain ⟨_, hn1, hg, _⟩ := new_get hnw
            have hca : cellsAt M' M.next = (cs, es) := by simp [cellsAt, hg]
            rw [hca] at h
            have hI' := hI.advance1 (v := v) (k := 1) (b := M.next) (cs := cs) (es := es) ho hdst (by decide) (.inr (.inl ⟨rfl, hw, hmade⟩)) hrel hfr (fun _ => ⟨rfl, hn1, hnone, hg⟩)
            obtain ⟨r1, d1, p1, a1, M1, q1, q2, q3, q4, q5, q6⟩ := advance hI' h
            exact ⟨r1, d1, p1, a1, M1, q1, q2, q3, q4.trans (htodo _ rfl), hord _ rfl q5, fun j hj => List.mem_cons_of_mem _ (q6 j hj)⟩
        · rename_i hk0 hk1
          have hk2 : kindOf o = 2 := by
            unfold kindOf at hk0 hk1 ⊢
            split <;> simp_all
            split <;> simp_all
          exact ⟨j :: rest, dn, pend, a, M, hI, h0, ⟨o, ho, hk2, hw⟩, rfl, rfl, fun _ h => h⟩
end
end
end Go.Ab
