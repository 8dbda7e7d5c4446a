/- Regions that draw their order, last part: all orders at once; and the theorem of the engine. -/
import Derived.Test.YtcoceihjahodhaaGreatDoorAbDraw3
namespace Go.Ab
open Go

section
variable {P : Program} {base : Nat} {ops : Array Oper} {tbl : List (Nat × Nat)} {C : Callers} {a0 : DAct} {m0 : Inj} {M0 : Mem} {w0 : World}

theorem filter_less {p q : Ent → Bool} : ∀ {l : List Ent}, (∀ e, q e = true → p e = true) → ∀ e ∈ l, p e = true → q e = false → (l.filter q).length < (l.filter p).length
  | f :: l, h, e, he, hp, hq => by
    have hle : (l.filter q).length ≤ (l.filter p).length := by
      rw [← List.countP_eq_length_filter, ← List.countP_eq_length_filter]
      exact List.countP_mono_left fun x _ hx => h x hx
    rcases List.mem_cons.1 he with rfl | he'
    · simp only [List.filter_cons, hp, hq, if_true, Bool.false_eq_true, if_false, List.length_cons]
      omega
    · have ih := filter_less h e he' hp hq
      have hf := h f
      simp only [List.filter_cons]
      split
      · rename_i h1; rw [if_pos (hf h1)]; simp only [List.length_cons]; omega
      · split
        · simp only [List.length_cons]; omega
        · exact ih
  | [], _, e, he, _, _ => by simp at he

theorem oldest {n : Nat} {init : Nat → Value} {S : Nat → Bool} {dn : List Ent} : WF P ops tbl n init dn → (∃ e ∈ dn, S e.j = false) → ∃ e ∈ dn, S e.j = false ∧ ∀ d ∈ depsOf e.o, S d = true := by
  induction dn with
  | nil => intro _ ⟨e, he, _⟩; simp at he
  | cons f dn ih =>
    intro h hex
    obtain ⟨h1, h2, h3, h4⟩ := h.cons
    by_cases hold : ∃ e ∈ dn, S e.j = false
    · obtain ⟨e, q1, q2, q3⟩ := ih h4 hold
      exact ⟨e, by simp [q1], q2, q3⟩
    · obtain ⟨e, he, hS⟩ := hex
      rcases List.mem_cons.1 he with rfl | he'
      · refine ⟨e, by simp, hS, fun d hd => ?_⟩
        obtain ⟨g, hg, rfl⟩ := h3 d hd
        cases hSg : S g.j with
        | true => rfl
        | false => exact absurd ⟨g, hg, hSg⟩ hold
      · exact absurd ⟨e, he', hS⟩ hold

def Slist (listed : Array Bool) : Nat → Bool := fun j => listed.getD j false

theorem Slist_set {listed : Array Bool} {i : Nat} (hi : i < listed.size) : Slist (listed.setIfInBounds i true) = fun j => Slist listed j || j == i := by
  funext j
  unfold Slist
  by_cases h : i = j
  · subst h; simp [hi]
  · rw [getD_set_ne false h]
    have : (j == i) = false := by simp [Ne.symm h]
    simp [this]

theorem ready_iff {listed : Array Bool} (hs : listed.size = ops.size) {j : Nat} : j ∈ Region.ready .any ops listed ↔ Slist listed j = false ∧ ∃ o, ops[j]? = some o ∧ ∀ d ∈ depsOf o, Slist listed d = true := by
  rw [mem_ready]
  have h1 : ∀ {o : Oper}, (∀ e ∈ o.after, Region.binds .any e = true → listed.getD e.on false = true) ↔ ∀ d ∈ depsOf o, Slist listed d = true := by
    intro o
    unfold depsOf Slist
    constructor
    · intro h d hd
      obtain ⟨e, he, rfl⟩ := List.mem_map.1 hd
      rw [List.mem_filter] at he
      exact h e (by simpa using he.1) he.2
    · intro h e he hb
      exact h e.on (List.mem_map.2 ⟨e, List.mem_filter.2 ⟨by simpa using he, hb⟩, rfl⟩)
  constructor
  · rintro ⟨h0, o, ho, h⟩
    refine ⟨?_, o, ho, h1.1 h⟩
    have hlt : j < ops.size := (Array.getElem?_eq_some_iff.1 ho).1
    unfold Slist
    rw [← hs] at hlt
    simp [hlt] at h0 ⊢
    exact h0
  · rintro ⟨h0, o, ho, h⟩
    refine ⟨?_, o, ho, h1.2 h⟩
    have hlt : j < ops.size := (Array.getElem?_eq_some_iff.1 ho).1
    unfold Slist at h0
    try simp only [pinfo_eq, pund_eq, pfn_eq] at h0
    rw [← hs] at hlt
    simp [hlt] at h0 ⊢
    exact h0

theorem drun_all (hT : TblOK ops tbl) (hfine : ops.toList.all (fineOper P) = true) (hC : COK P base C) {x : Exit} {a1 : DAct} {M1 : Mem} {Q : Exit → Act → World → Prop}
    (hQ : ∀ x' a1' w1, Post P base m0 M0 w0 x a1 M1 x' a1' w1 → Q x' a1' w1) :
    ∀ (fuel : Nat) (listed : Array Bool), listed.size = ops.size → ∀ {rest : List Nat} {dn pend : List Ent} {a : DAct} {M : Mem} {m : Inj} {w : World} {a' : Act},
    Inv P base ops tbl a0 m0 M0 w0 (Slist listed) rest dn pend a M m w a' → drun P C ops tbl rest dn pend a M = some (x, a1, M1) → todo (Slist listed) dn rest ≤ fuel →
    wpAny P .any ops Q fuel listed a' w := by
  intro fuel
  have main : ∀ (listed : Array Bool), listed.size = ops.size → ∀ {rest : List Nat} {dn pend : List Ent} {a : DAct} {M : Mem} {m : Inj} {w : World} {a' : Act},
      Inv P base ops tbl a0 m0 M0 w0 (Slist listed) rest dn pend a M m w a' → drun P C ops tbl rest dn pend a M = some (x, a1, M1) → Region.ready .any ops listed = [] → Q .normal a' w := by
    intro listed hs rest dn pend a M m w a' hI0 h0 hnil
    obtain ⟨rest, dn, pend, a, M, hI, h, hst, _⟩ := advance hI0 h0
    have hno : ∀ j, ¬ (Slist listed j = false ∧ ∃ o, ops[j]? = some o ∧ ∀ d ∈ depsOf o, Slist listed d = true) := fun j hj => by
      have := (ready_iff hs).2 hj
      rw [hnil] at this; simp at this
    have hall : ∀ e ∈ dn, Slist listed e.j = true := by
      intro e he
      cases hS : Slist listed e.j with
      | true => rfl
      | false =>
        obtain ⟨f, hf, hSf, hd⟩ := oldest hI.wf ⟨e, he, hS⟩
        exact absurd ⟨hSf, _, (hI.wf.mem f hf).1, hd⟩ (hno f.j)
    cases rest with
    | cons j rest =>
      obtain ⟨o, ho, hd, hn, hp, _⟩ := statGo_cons hI.stat
      refine absurd ⟨hI.restUn j (by simp), o, ho, fun d hdd => ?_⟩ (hno j)
      obtain ⟨f, hf, rfl⟩ := List.mem_map.1 (hd d hdd)
      exact hall f hf
    | nil =>
      unfold drun at h
      try simp only [pinfo_eq, pund_eq, pfn_eq] at h
      simp only [cond_eq_ite] at h
      split at h
      case isFalse => cases h
      simp only [Option.some.injEq, Prod.mk.injEq] at h
      obtain ⟨rfl, rfl, rfl⟩ := h
      refine hQ _ _ _ ⟨m, trivial, ⟨hI.size.trans hI.an.symm, by rw [hI.an]; exact hI.small, fun t _ => ?_, by rw [hI.ad]; exact hI.defs⟩, hI.rel, hI.fr⟩
      show VRel m (a.tmp t) _
      rw [hI.cur t, ← valOf_congr (S := Slist listed) (S' := fun _ => true) fun e he _ => hall e he]
      exact hI.act t
  induction fuel with
  | zero =>
    intro listed hs rest dn pend a M m w a' hI h hle
    have hnil : Region.ready .any ops listed = [] := by
      rw [List.eq_nil_iff_forall_not_mem]
      intro j hj
      obtain ⟨hSj, o, ho, hd⟩ := (ready_iff hs).1 hj
      unfold todo at hle
      try simp only [pinfo_eq, pund_eq, pfn_eq] at hle
      have hr : rest = [] := List.eq_nil_of_length_eq_zero (by omega)
      have hf : (dn.filter fun e => !Slist listed e.j) = [] := List.eq_nil_of_length_eq_zero (by omega)
      rcases hI.covers j (Array.getElem?_eq_some_iff.1 ho).1 with h | ⟨e, he, rfl⟩
      · rw [hr] at h; simp at h
      · have := List.filter_eq_nil_iff.1 hf e he
        rw [hSj] at this; simp at this
    exact ⟨hnil, main listed hs hI h hnil⟩
  | succ fuel ih =>
    intro listed hs rest dn pend a M m w a' hI0 h0 hle0
    refine ⟨main listed hs hI0 h0, fun i hi => ?_⟩
    obtain ⟨rest, dn, pend, a, M, hI, h, hst, htodo⟩ := advance hI0 h0
    rw [← htodo] at hle0
    obtain ⟨hSi, o, ho, hd⟩ := (ready_iff hs).1 hi
    have hlt : i < listed.size := by rw [hs]; exact (Array.getElem?_eq_some_iff.1 ho).1
    have hsz : (listed.setIfInBounds i true).size = ops.size := by simpa using hs
    have hfloat : ∀ e ∈ dn, e.j = i → recheck P pend M = true → wpOp P ops Q i (wpAny P .any ops Q fuel (listed.setIfInBounds i true)) a' w := by
      rintro e he rfl hre
      have hoe := (hI.wf.mem e he).1
      rw [ho] at hoe; cases hoe
      refine hI.float hT hfine hre he hSi hd fun m' w' a1' hI' => ?_
      rw [← Slist_set hlt] at hI'
      refine ih _ hsz hI' h ?_
      have hless := filter_less (l := dn) (p := fun f => !Slist listed f.j) (q := fun f => !Slist (listed.setIfInBounds e.j true) f.j) (fun f hf => by
        rw [Slist_set hlt] at hf; simp at hf ⊢; exact hf.1) e he (by simp [hSi]) (by rw [Slist_set hlt]; simp)
      unfold todo at hle0 ⊢
      omega
    rcases hI.covers i (by omega) with hr | ⟨e, he, hej⟩
    · cases rest with
      | nil => simp at hr
      | cons j rest =>
        obtain ⟨oj, hoj, hkj, hwj⟩ := hst
        by_cases hij : i = j
        · subst hij
          rw [ho] at hoj; cases hoj
          refine hI.effect hT hfine hC h ho hkj hwj hd hQ fun m' w' a1' pend' a2 M2 e hej hI' h' => ?_
          rw [← Slist_set hlt] at hI'
          refine ih _ hsz hI' h' ?_
          have hle : (dn.filter fun f => !Slist (listed.setIfInBounds i true) f.j).length ≤ (dn.filter fun f => !Slist listed f.j).length := by
            rw [← List.countP_eq_length_filter, ← List.countP_eq_length_filter]
            exact List.countP_mono_left fun f _ hf => by
              rw [Slist_set hlt] at hf; simp at hf ⊢; exact hf.1
          have hh : (!Slist (listed.setIfInBounds i true) e.j) = false := by rw [Slist_set hlt, hej]; simp
          unfold todo at hle0 ⊢
          simp only [List.filter_cons, hh, Bool.false_eq_true, if_false, List.length_cons] at hle0 ⊢
          omega
        · have hr' : i ∈ rest := (List.mem_cons.1 hr).resolve_left hij
          obtain ⟨_, _, _, _, _, hst'⟩ := statGo_cons hI.stat
          obtain ⟨hreach, _⟩ := statGo_later hst' j (by simp) hoj hkj i hr'
          obtain ⟨oi, h1, h2⟩ := hT _ _ hreach
          rw [ho] at h1; cases h1
          have := h2 _ hI.closed hd
          rw [hI.restUn j (by simp)] at this; cases this
    · refine hfloat e he hej ?_
      cases rest with
      | nil =>
        unfold drun at h
        try simp only [pinfo_eq, pund_eq, pfn_eq] at h
        simp only [cond_eq_ite] at h
        split at h
        · assumption
        · cases h
      | cons j rest =>
        obtain ⟨oj, hoj, hkj, hwj⟩ := hst
        unfold drun at h
        rw [hoj] at h
        simp only [cond_eq_ite] at h
        split at h
        case isFalse => cases h
        rw [hwj, hkj] at h
        simp only at h
        split at h
        · assumption
        · cases h

theorem dDraw_ok (hC : COK P base C) : DrawOK P base (dDraw P C) := by
  intro id ops hfine a M x a1 M1 h m w a' hA hj hR
  unfold dDraw at h
  try simp only [pinfo_eq, pund_eq, pfn_eq] at h
  simp only [cond_eq_ite, Bool.and_eq_true] at h
  split at h
  case isFalse => cases h
  rename_i hc
  obtain ⟨hstat, hmix⟩ := hc
  refine wp_region_any hmix ?_
  have hT : TblOK ops (masks ops (eager ops) []) := masks_ok ops _ _ fun j i hr => by simp [reach, lookMask] at hr
  unfold stat at hstat
  try simp only [pinfo_eq, pund_eq, pfn_eq] at hstat
  simp only [Bool.and_eq_true, Nat.ble_eq, List.all_eq_true, List.mem_range] at hstat
  have hS : ∀ j, Slist (Array.replicate ops.size false) j = false := by
    intro j; unfold Slist
    simp only [Array.getD_eq_getD_getElem?, Array.getElem?_replicate]
    split <;> rfl
  have hI : Inv P base ops (masks ops (eager ops) []) a m M w (Slist (Array.replicate ops.size false)) (eager ops) [] [] a M m { w with drawn := w.drawn + 1 } a' :=
    ⟨trivial, fun t => rfl, rfl, hj, rfl, hA.small, hA.size, fun t => hA.tmp t (by rw [hj]; simp), hA.defers, hR.heap rfl, Fr.heap rfl rfl rfl rfl, (fun e he => by simp at he), (fun e he => by simp at he),
      (fun e he => by simp at he), (fun j o hjj => by rw [hS] at hjj; cases hjj), (fun j _ => hS j), (fun j hlt => .inl (memN_iff.1 (hstat.1.2 j hlt))), hstat.2⟩
  exact drun_all hT hfine hC (fun _ _ _ h => h) ops.size _ (by simp) hI h (by unfold todo; simpa using hstat.1.1)

/-- the theorem of the engine -/
theorem engine (hfine : fineProg P = true) {K k : Nat} {f : FuncId} {args : Array Value} {M M' : Mem} {r : DEnd} (h : (knotD P (dDraw P) K k).call f args M = some (r, M')) {m : Inj} {w : World} {args' : Array Value}
    (ha : VsRel m args.toList args'.toList) (hR : Rel P base m M w) :
    Calls P f args' w fun e w' => ∃ m', EndRel m' r e ∧ Rel P base m' M' w' ∧ Fr base m m' M M' w w' :=
  (knotD_ok hfine (fun _ hC => dDraw_ok hC) k).call h ha hR
end
end Go.Ab
