/- Regions that draw their order, last part: all orders at once; and the theorem of the engine. -/
import Derived.Test.YtjlbdefkkhfhaaaGreatDoorAbDraw3
namespace Go.Ab
open Go

section
variable {P : Program} {base : Nat} {ops : Array Oper} {tbl : List (Nat × Nat)} {G : List Nat} {C : Callers} {fin : List Ent → List Ent → DAct → Mem → Option (Exit × DAct × Mem)} {a0 : DAct} {m0 : Inj} {M0 : Mem} {w0 : World}

theorem filter_less {p q : Ent → Bool} : ∀ {l : List Ent}, (∀ e, q e = true → p e = true) → ∀ e ∈ l, p e = true → q e = false → (l.filter q).length < (l.filter p).length
  | f :: l, h, e, he, hp, hq => by
    have hle : (l.filter q).length ≤ (l.filter p).length := by
      rw [← List.countP_eq_length_filter, ← List.countP_eq_length_filter]
      exact List.countP_mono_left fun x _ hx => h x hx
    rcases List.mem_cons.1 he with rfl | he'
    · simp only [List.filter_cons, hp, hq, if_true, Bool.false_eq_true, if_false, List.length_cons]
      omega
    · have ih := filter_less h e he' hp hq
      have hf := h f
      simp only [List.filter_cons]
      split
      · rename_i h1; rw [if_pos (hf h1)]; simp only [List.length_cons]; omega
      · split
        · simp only [List.length_cons]; omega
        · exact ih
  | [], _, e, he, _, _ => by simp at he

theorem oldest {n : Nat} {init : Nat → Value} {S : Nat → Bool} {dn : List Ent} : WF P ops tbl n init dn → (∃ e ∈ dn, S e.j = false) → ∃ e ∈ dn, S e.j = false ∧ ∀ d ∈ depsOf e.o, S d = true := by
  induction dn with
  | nil => intro _ ⟨e, he, _⟩; simp at he
  | cons f dn ih =>
    intro h hex
    obtain ⟨h1, h2, h3, h4⟩ := h.cons
    by_cases hold : ∃ e ∈ dn, S e.j = false
    · obtain ⟨e, q1, q2, q3⟩ := ih h4 hold
      exact ⟨e, by simp [q1], q2, q3⟩
    · obtain ⟨e, he, hS⟩ := hex
      rcases List.mem_cons.1 he with rfl | he'
      · refine ⟨e, by simp, hS, fun d hd => ?_⟩
        obtain ⟨g, hg, rfl⟩ := h3 d hd
        cases hSg : S g.j with
        | true => rfl
        | false => exact absurd ⟨g, hg, hSg⟩ hold
      · exact absurd ⟨e, he', hS⟩ hold

def Slist (listed : Array Bool) : Nat → Bool := fun j => listed.getD j false

theorem Slist_set {listed : Array Bool} {i : Nat} (hi : i < listed.size) : Slist (listed.setIfInBounds i true) = fun j => Slist listed j || j == i := by
  funext j
  unfold Slist
  by_cases h : i = j
  · subst h; simp [hi]
  · rw [getD_set_ne false h]
    have : (j == i) = false := by simp [Ne.symm h]
    simp [this]

theorem ready_iff {listed : Array Bool} (hs : listed.size = ops.size) {j : Nat} : j ∈ Region.ready .any ops listed ↔ Slist listed j = false ∧ ∃ o, ops[j]? = some o ∧ ∀ d ∈ depsOf o, Slist listed d = true := by
  rw [mem_ready]
  have h1 : ∀ {o : Oper}, (∀ e ∈ o.after, Region.binds .any e = true → listed.getD e.on false = true) ↔ ∀ d ∈ depsOf o, Slist listed d = true := by
    intro o
    unfold depsOf Slist
    constructor
    · intro h d hd
      obtain ⟨e, he, rfl⟩ := List.mem_map.1 hd
      rw [List.mem_filter] at he
      exact h e (by simpa using he.1) he.2
    · intro h e he hb
      exact h e.on (List.mem_map.2 ⟨e, List.mem_filter.2 ⟨by simpa using he, hb⟩, rfl⟩)
  constructor
  · rintro ⟨h0, o, ho, h⟩
    refine ⟨?_, o, ho, h1.1 h⟩
    have hlt : j < ops.size := (Array.getElem?_eq_some_iff.1 ho).1
    unfold Slist
    rw [← hs] at hlt
    simp [hlt] at h0 ⊢
    exact h0
  · rintro ⟨h0, o, ho, h⟩
    refine ⟨?_, o, ho, h1.2 h⟩
    have hlt : j < ops.size := (Array.getElem?_eq_some_iff.1 ho).1
    unfold Slist at h0
    try simp only [pinfo_eq, pund_eq, pfn_eq] at h0
    rw [← hs] at hlt
    simp [hlt] at h0 ⊢
    exact h0

/-! ### stores at the end -/
def MEq (M M' : Mem) : Prop := M.next = M'.next ∧ ∀ b, M.get b = M'.get b
theorem Rel.congr {m : Inj} {M M' : Mem} {w : World} (h : MEq M M') (hR : Rel P base m M w) : Rel P base m M' w := by
  obtain ⟨h1, h2⟩ := h
  have ho : ∀ b, M'.own b → M.own b := fun b ⟨o, hg, hh⟩ => ⟨o, (h2 b).trans hg, hh⟩
  exact ⟨hR.low, fun b L o hb hg => hR.obj b L o hb ((h2 b).trans hg), fun b b' L L' hb hb' q q' he => hR.apart b b' L L' hb hb' (ho b q) (ho b' q') he, hR.live, fun b L hb => by rw [← h1]; exact hR.fresh b L hb,
    hR.base, by rw [← h1]; exact hR.small⟩
theorem Fr.congr {m m' : Inj} {M M1 M2 : Mem} {w w' : World} (h : MEq M1 M2) (hF : Fr base m m' M M1 w w') : Fr base m m' M M2 w w' :=
  ⟨hF.le, hF.os, hF.tape, hF.output, hF.size, hF.keep, hF.new, by rw [← h.1]; exact hF.next, fun b hb hm => by rw [← h.2]; exact hF.keepM b hb hm, hF.newid⟩

theorem objEq_eq {o o' : Option AObj} (h : objEq o o' = true) : o = o' := by
  unfold objEq at h
  split at h
  · simp only [Bool.and_eq_true, Nat.beq_eq, beq_iff_eq] at h
    obtain ⟨⟨⟨⟨rfl, rfl⟩, rfl⟩, rfl⟩, h⟩ := h
    have key : ∀ {l k : List Value}, all2 (veqN 6) l k = true → l = k := by
      intro l
      induction l with
      | nil => intro k hk; cases k <;> first | rfl | (simp [all2] at hk)
      | cons x l ih =>
        intro k hk
        cases k with
        | nil => simp [all2] at hk
        | cons y k =>
          simp only [all2, Bool.and_eq_true] at hk
          rw [veqN_eq _ _ _ hk.1, ih hk.2]
    rw [key h]
  · rfl
  · cases h

theorem isStore_spec {o : Oper} (h : isStore o = true) : ∃ t x v, o.op = .store t x v ∧ o.dst = none ∧ o.guard = none := by
  unfold isStore at h
  split at h
  · rename_i t x v ho
    simp only [Bool.and_eq_true, Option.isNone_iff_eq_none] at h
    exact ⟨t, x, v, ho, h.1, h.2⟩
  · cases h
theorem storeAt_spec {i : Nat} (h : storeAt ops i = true) : ∃ o, ops[i]? = some o ∧ isStore o = true := by
  unfold storeAt at h
  split at h
  · exact ⟨_, by assumption, h⟩
  · cases h
theorem isStore_kind {o : Oper} (h : isStore o = true) : kindOf o = 2 := by
  obtain ⟨t, x, v, ho, _⟩ := isStore_spec h
  unfold kindOf; rw [ho]
theorem isStore_wanted {o : Oper} (h : isStore o = true) (a : DAct) : wantedD ops a o = true := by
  obtain ⟨t, x, v, _, _, hg⟩ := isStore_spec h
  unfold wantedD; rw [hg]
theorem stores_apart {x y : Oper} (hx : isStore x = true) (hy : isStore y = true) : Oper.apart ops x y = true := by
  obtain ⟨_, _, _, _, h1, _⟩ := isStore_spec hx
  obtain ⟨_, _, _, _, h2, _⟩ := isStore_spec hy
  unfold Oper.apart
  rw [h1, h2]; rfl

theorem dStore_touch {t : TypeId} {v x : Value} {M M' : Mem} (h : dStore P t v x M = some M') : ∃ b o, v = .pointer (some ⟨b, o, none⟩) ∧ M'.next = M.next ∧ ∀ c, c ≠ b → M'.get c = M.get c := by
  unfold dStore at h
  split at h
  · rename_i b o
    refine ⟨b, o, rfl, ?_⟩
    split at h
    · simp only [cond_eq_ite] at h
      split at h
      · unfold Mem.write at h
        split at h
        · simp only [cond_eq_ite] at h
          split at h
          · cases h
            exact ⟨rfl, fun c hc => M.get_put_ne _ hc⟩
          · cases h
        · cases h
      · cases h
    · cases h
  · cases h

theorem store_step {i : Nat} (hs : storeAt ops i = true) {dn pend : List Ent} {a : DAct} {M : Mem} {r : Exit × DAct × Mem} (h : drun P C ops tbl fin [i] dn pend a M = some r) :
    ∃ e pend' M', fin (e :: dn) pend' a M' = some r ∧ M'.next = M.next ∧ (∀ b, b ≠ touchAt ops i a → M'.get b = M.get b) ∧ recheck P pend M = true := by
  obtain ⟨o, ho, hst⟩ := storeAt_spec hs
  obtain ⟨t, x, v, hop, hdst, hg⟩ := isStore_spec hst
  unfold drun at h
  rw [ho] at h
  simp only [cond_eq_ite] at h
  split at h
  case isFalse => cases h
  rw [isStore_wanted hst, isStore_kind hst] at h
  simp only at h
  split at h
  case isFalse => cases h
  rename_i hre
  have hd : dOp P o a.eval M = (dStore P t (a.eval x) (a.eval v) M).map fun M' => (.skip, M') := by unfold dOp; rw [hop]
  rw [hd] at h
  cases hq : dStore P t (a.eval x) (a.eval v) M with
  | none => rw [hq] at h; cases h
  | some M' =>
    rw [hq] at h
    simp only [Option.map_some, hdst, DAct.put_none] at h
    unfold drun at h
    obtain ⟨b, off, hb, h1, h2⟩ := dStore_touch hq
    refine ⟨_, _, M', h, h1, fun c hc => h2 c ?_, hre⟩
    intro he
    apply hc
    unfold touchAt
    rw [ho]
    simp only
    rw [hop]
    simp only
    rw [hb]
    exact he

theorem mem_without {i j : Nat} : ∀ {l : List Nat}, l.Nodup → (j ∈ without i l ↔ j ∈ l ∧ j ≠ i)
  | [], _ => by simp [without]
  | k :: l, hn => by
    simp only [List.nodup_cons] at hn
    have ih := mem_without (i := i) (j := j) hn.2
    unfold without
    simp only [cond_eq_ite, Nat.beq_eq]
    split
    · rename_i hik
      subst hik
      constructor
      · intro h; exact ⟨List.mem_cons_of_mem _ h, fun he => hn.1 (he ▸ h)⟩
      · rintro ⟨h, hne⟩; exact (List.mem_cons.1 h).resolve_left hne
    · rename_i hik
      rw [List.mem_cons, ih, List.mem_cons]
      constructor
      · rintro (h | h)
        · exact ⟨.inl h, fun he => hik (he.symm.trans h)⟩
        · exact ⟨.inr h.1, h.2⟩
      · rintro ⟨h | h, hne⟩
        · exact .inl h
        · exact .inr ⟨h, hne⟩
theorem nodup_without {i : Nat} : ∀ {l : List Nat}, l.Nodup → (without i l).Nodup
  | [], _ => by simp [without]
  | k :: l, hn => by
    have hn' := List.nodup_cons.1 hn
    unfold without
    simp only [cond_eq_ite]
    split
    · exact hn'.2
    · rw [List.nodup_cons]
      exact ⟨fun h => hn'.1 ((mem_without hn'.2).1 h).1, nodup_without hn'.2⟩
theorem length_without {i : Nat} : ∀ {l : List Nat}, i ∈ l → (without i l).length + 1 = l.length
  | [], h => by simp at h
  | k :: l, h => by
    unfold without
    simp only [cond_eq_ite, Nat.beq_eq]
    split
    · rfl
    · rename_i hik
      have := length_without (i := i) (l := l) ((List.mem_cons.1 h).resolve_left hik)
      simp only [List.length_cons]; omega

theorem finT_spec : ∀ (n : Nat) {T : List Nat} {dn pend : List Ent} {a : DAct} {M : Mem} {x : Exit} {a1 : DAct} {M1 : Mem}, finT P C ops tbl n T dn pend a M = some (x, a1, M1) →
    x = .normal ∧ a1 = a ∧ M1.next = M.next ∧ ∀ b, (∀ j ∈ T, touchAt ops j a ≠ b) → M1.get b = M.get b
  | 0, T, dn, pend, a, M, x, a1, M1, h => by unfold finT at h; cases h
  | n + 1, [], dn, pend, a, M, x, a1, M1, h => by
    unfold finT fin0 at h
    simp only [cond_eq_ite] at h
    split at h
    · cases h; exact ⟨rfl, rfl, rfl, fun _ _ => rfl⟩
    · cases h
  | n + 1, i :: T, dn, pend, a, M, x, a1, M1, h => by
    unfold finT at h
    split at h
    case h_2 => cases h
    rename_i x0 a0 M0 hr
    simp only [cond_eq_ite, Bool.and_eq_true, List.all_eq_true] at h
    split at h
    case isFalse => cases h
    rename_i hc
    cases h
    obtain ⟨e, pend', M', hf, h1, h2, _⟩ := store_step (hc.1 i (by simp)) hr
    obtain ⟨g1, g2, g3, g4⟩ := finT_spec n hf
    refine ⟨g1, g2, g3.trans h1, fun b hb => ?_⟩
    rw [g4 b fun j hj => hb j (by simp [hj]), h2 b (Ne.symm (hb i (by simp)))]

/-- any of the stores may come first -/
theorem finT_pick {n : Nat} {i : Nat} {T : List Nat} (hi : i ∈ T) (hn : T.Nodup) {dn pend : List Ent} {a : DAct} {M : Mem} {x : Exit} {a1 : DAct} {M1 : Mem} (h : finT P C ops tbl n T dn pend a M = some (x, a1, M1)) :
    ∃ n' M2, n = n' + 1 ∧ storeAt ops i = true ∧ drun P C ops tbl (finT P C ops tbl n' (without i T)) [i] dn pend a M = some (x, a1, M2) ∧ MEq M2 M1 := by
  cases n with
  | zero => unfold finT at h; cases h
  | succ n =>
    cases T with
    | nil => simp at hi
    | cons i0 T =>
      have hspec := finT_spec _ h
      unfold finT at h
      split at h
      case h_2 => cases h
      rename_i x0 a0 M0 hr
      simp only [cond_eq_ite, Bool.and_eq_true, List.all_eq_true] at h
      split at h
      case isFalse => cases h
      rename_i hc
      simp only [Option.some.injEq, Prod.mk.injEq] at h
      obtain ⟨rfl, rfl, rfl⟩ := h
      by_cases hii : i = i0
      · subst hii
        have hw : without i (i :: T) = T := by
          simp [without]
        rw [hw]
        exact ⟨n, _, rfl, hc.1 i (by simp), hr, rfl, fun _ => rfl⟩
      · have hiT := (List.mem_cons.1 hi).resolve_left hii
        have h2 := hc.2 i hiT
        split at h2
        case h_2 => cases h2
        rename_i x2 a2 M2 hr2
        obtain ⟨e, pend', M', hf, q1, q2, _⟩ := store_step (hc.1 i hi) hr2
        obtain ⟨g1, g2, g3, g4⟩ := finT_spec n hf
        rw [g1, g2] at hr2
        rw [hspec.1, hspec.2.1]
        refine ⟨n, M2, rfl, hc.1 i hi, hr2, g3.trans (q1.trans hspec.2.2.1.symm), fun b => ?_⟩
        by_cases hb : ∃ j ∈ i0 :: T, touchAt ops j a = b
        · obtain ⟨j, hj, rfl⟩ := hb
          unfold agree at h2
          rw [List.all_eq_true] at h2
          exact (objEq_eq (h2 j hj)).symm
        · have hb' : ∀ j ∈ i0 :: T, touchAt ops j a ≠ b := fun j hj he => hb ⟨j, hj, he⟩
          rw [hspec.2.2.2 b hb', g4 b fun j hj => hb' j ((mem_without hn).1 hj).1, q2 b (Ne.symm (hb' i hi))]

/-- what is asked of a store at the end, pre being ahead of all of them -/
def TailP (ops : Array Oper) (tbl : List (Nat × Nat)) (pre : List Nat) (j : Nat) : Prop :=
  ∃ o, ops[j]? = some o ∧ isStore o = true ∧ (∀ d ∈ depsOf o, d ∈ pre) ∧ j ∉ pre ∧ ∀ i ∈ pre, ∃ oi, ops[i]? = some oi ∧ (reach tbl j i = true ∨ (kindOf oi ≠ 2 ∧ Oper.apart ops oi o = true))
theorem tailOK_spec {pre : List Nat} : ∀ {T : List Nat}, tailOK ops tbl pre T = true → T.Nodup ∧ ∀ j ∈ T, TailP ops tbl pre j
  | [], _ => ⟨by simp, by simp⟩
  | j :: T, h => by
    unfold tailOK at h
    split at h
    case h_2 => cases h
    rename_i o ho
    simp only [Bool.and_eq_true, List.all_eq_true, memN_iff, Bool.not_eq_true'] at h
    obtain ⟨⟨⟨⟨⟨h1, h2⟩, h3⟩, h4⟩, h5⟩, h6⟩ := h
    obtain ⟨g1, g2⟩ := tailOK_spec h6
    refine ⟨List.nodup_cons.2 ⟨(fun hm => by rw [memN_iff.2 hm] at h4; cases h4), g1⟩, fun k hk => ?_⟩
    rcases List.mem_cons.1 hk with rfl | hk
    · refine ⟨o, ho, h1, h2, (fun hm => by rw [memN_iff.2 hm] at h3; cases h3), fun i hi => ?_⟩
      have := h5 i hi
      split at this
      · rename_i oi hoi
        refine ⟨oi, hoi, ?_⟩
        simp only [Bool.or_eq_true, Bool.and_eq_true, Bool.not_eq_true'] at this
        exact this.imp id fun h => ⟨(fun he => by rw [he] at h; cases h.1), h.2⟩
      · cases this
    · exact g2 k hk

theorem statGo_tail {pre : List Nat} : ∀ {τ U : List Nat}, τ.Nodup → (∀ j ∈ τ, TailP ops tbl pre j ∧ j ∈ G ∧ j ∉ U) → (∀ i ∈ U, i ∈ G ∧ storeAt ops i = true) → statGo ops tbl G (U ++ pre) τ = true
  | [], U, _, _, _ => rfl
  | j :: τ, U, hn, hτ, hU => by
    have hn' := List.nodup_cons.1 hn
    obtain ⟨⟨o, ho, hs, hd, hnp, hp⟩, hjG, hjU⟩ := hτ j (by simp)
    have ih := statGo_tail (pre := pre) (τ := τ) (U := j :: U) hn'.2 (fun k hk => ⟨(hτ k (by simp [hk])).1, (hτ k (by simp [hk])).2.1, fun hm => by
      rcases List.mem_cons.1 hm with rfl | hm
      · exact hn'.1 hk
      · exact (hτ k (by simp [hk])).2.2 hm⟩) (fun i hi => by
      rcases List.mem_cons.1 hi with rfl | hi
      · exact ⟨hjG, by unfold storeAt; rw [ho]; exact hs⟩
      · exact hU i hi)
    unfold statGo
    rw [ho]
    simp only [Bool.and_eq_true, List.all_eq_true, memN_iff, Bool.not_eq_true']
    refine ⟨⟨⟨fun d hdd => by simp [hd d hdd], ?_⟩, fun i hi => ?_⟩, ih⟩
    · cases hm : memN j (U ++ pre) with
      | false => rfl
      | true => exact absurd (List.mem_append.1 (memN_iff.1 hm)) fun h => h.elim hjU hnp
    · rcases List.mem_append.1 hi with hi | hi
      · obtain ⟨hiG, his⟩ := hU i hi
        obtain ⟨oi, hoi, his⟩ := storeAt_spec his
        rw [hoi]
        simp only [memN_iff.2 hiG, memN_iff.2 hjG, stores_apart his hs, Bool.and_self, Bool.or_true]
      · obtain ⟨oi, hoi, h⟩ := hp i hi
        rw [hoi]
        simp only [Bool.or_eq_true, Bool.and_eq_true, Bool.not_eq_true']
        refine h.imp id fun h => ⟨.inl ?_, h.2⟩
        cases hq : Nat.beq (kindOf oi) 2 with
        | false => rfl
        | true => exact absurd (Nat.eq_of_beq_eq_true hq) h.1

theorem statGo_append {T : List Nat} : ∀ {p pre : List Nat}, statGo ops tbl G pre p = true → statGo ops tbl G (p.reverse ++ pre) T = true → statGo ops tbl G pre (p ++ T) = true
  | [], pre, _, h => by simpa using h
  | j :: p, pre, h, h' => by
    unfold statGo at h
    rw [List.cons_append]
    unfold statGo
    split at h
    · rename_i o ho
      simp only [Bool.and_eq_true] at h ⊢
      refine ⟨h.1, statGo_append h.2 ?_⟩
      rw [List.reverse_cons, List.append_assoc] at h'
      exact h'
    · cases h
theorem statGo_mono {T : List Nat} : ∀ {p pre : List Nat}, statGo ops tbl [] pre p = true → statGo ops tbl T pre p = true
  | [], pre, _ => rfl
  | j :: p, pre, h => by
    unfold statGo at h ⊢
    split at h
    · rename_i o ho
      simp only [Bool.and_eq_true, List.all_eq_true] at h ⊢
      refine ⟨⟨h.1.1, fun i hi => ?_⟩, statGo_mono h.2⟩
      have := h.1.2 i hi
      split at this
      · simp only [Bool.or_eq_true, Bool.and_eq_true] at this ⊢
        refine this.imp id fun h => ⟨h.1.imp id fun h => ?_, h.2⟩
        exact absurd (memN_iff.1 h.1) (by simp)
      · cases this
    · cases h

theorem Inv.reorder {S : Nat → Bool} {r r' : List Nat} {dn pend : List Ent} {a : DAct} {M : Mem} {m : Inj} {w : World} {a' : Act}
    (hI : Inv P base ops tbl G a0 m0 M0 w0 S r dn pend a M m w a') (hm : ∀ j, j ∈ r' ↔ j ∈ r) (hst : statGo ops tbl G (dn.map (·.j)) r' = true) : Inv P base ops tbl G a0 m0 M0 w0 S r' dn pend a M m w a' :=
  ⟨hI.wf, hI.cur, hI.an, hI.aj, hI.ad, hI.small, hI.size, hI.act, hI.defs, hI.rel, hI.fr, hI.pendOK, hI.made, hI.unmade, hI.closed, fun j hj => hI.restUn j ((hm j).1 hj),
    fun j hj => (hI.covers j hj).imp (fun h => (hm j).2 h) id, hst⟩

theorem drun_all (hT : TblOK ops tbl) (hfine : ops.toList.all (fineOper P) = true) (hC : COK P base C) {Q : Exit → Act → World → Prop} {pre : List Nat} :
    ∀ (fuel : Nat) (listed : Array Bool), listed.size = ops.size → ∀ {n : Nat} {rest T U : List Nat} {dn pend : List Ent} {a : DAct} {M : Mem} {m : Inj} {w : World} {a' : Act} {x : Exit} {a1 : DAct} {M1 : Mem},
    (∀ x' a1' w1, Post P base m0 M0 w0 x a1 M1 x' a1' w1 → Q x' a1' w1) →
    T.Nodup → (∀ j ∈ T, TailP ops tbl pre j ∧ j ∈ G ∧ j ∉ U) → (∀ i ∈ U, i ∈ G ∧ storeAt ops i = true) → (∀ j ∈ rest, j ∉ G) → rest.reverse ++ dn.map (·.j) = U ++ pre →
    Inv P base ops tbl G a0 m0 M0 w0 (Slist listed) (rest ++ T) dn pend a M m w a' → drun P C ops tbl (finT P C ops tbl n T) rest dn pend a M = some (x, a1, M1) → todo (Slist listed) dn (rest ++ T) ≤ fuel →
    wpAny P .any ops Q fuel listed a' w := by
  intro fuel
  have main : ∀ (listed : Array Bool), listed.size = ops.size → ∀ {n : Nat} {rest T : List Nat} {dn pend : List Ent} {a : DAct} {M : Mem} {m : Inj} {w : World} {a' : Act} {x : Exit} {a1 : DAct} {M1 : Mem},
      (∀ x' a1' w1, Post P base m0 M0 w0 x a1 M1 x' a1' w1 → Q x' a1' w1) →
      Inv P base ops tbl G a0 m0 M0 w0 (Slist listed) (rest ++ T) dn pend a M m w a' → drun P C ops tbl (finT P C ops tbl n T) rest dn pend a M = some (x, a1, M1) → Region.ready .any ops listed = [] → Q .normal a' w := by
    intro listed hs n rest T dn pend a M m w a' x a1 M1 hQ hI0 h0 hnil
    obtain ⟨rest, dn, pend, a, M, hI, h, hst, _⟩ := advance hI0 h0
    have hno : ∀ j, ¬ (Slist listed j = false ∧ ∃ o, ops[j]? = some o ∧ ∀ d ∈ depsOf o, Slist listed d = true) := fun j hj => by
      have := (ready_iff hs).2 hj
      rw [hnil] at this; simp at this
    have hall : ∀ e ∈ dn, Slist listed e.j = true := by
      intro e he
      cases hS : Slist listed e.j with
      | true => rfl
      | false =>
        obtain ⟨f, hf, hSf, hd⟩ := oldest hI.wf ⟨e, he, hS⟩
        exact absurd ⟨hSf, _, (hI.wf.mem f hf).1, hd⟩ (hno f.j)
    cases hrT : rest ++ T with
    | cons j r =>
      rw [hrT] at hI
      obtain ⟨o, ho, hd, hn, hp, _⟩ := statGo_cons hI.stat
      refine absurd ⟨hI.restUn j (by simp), o, ho, fun d hdd => ?_⟩ (hno j)
      obtain ⟨f, hf, rfl⟩ := List.mem_map.1 (hd d hdd)
      exact hall f hf
    | nil =>
      obtain ⟨rfl, rfl⟩ := List.append_eq_nil_iff.1 hrT
      unfold drun at h
      cases n with
      | zero => unfold finT at h; cases h
      | succ n =>
        unfold finT fin0 at h
        simp only [cond_eq_ite] at h
        split at h
        case isFalse => cases h
        simp only [Option.some.injEq, Prod.mk.injEq] at h
        obtain ⟨rfl, rfl, rfl⟩ := h
        refine hQ _ _ _ ⟨m, trivial, ⟨hI.size.trans hI.an.symm, by rw [hI.an]; exact hI.small, fun t _ => ?_, by rw [hI.ad]; exact hI.defs⟩, hI.rel, hI.fr⟩
        show VRel m (a.tmp t) _
        rw [hI.cur t, ← valOf_congr (S := Slist listed) (S' := fun _ => true) fun e he _ => hall e he]
        exact hI.act t
  induction fuel with
  | zero =>
    intro listed hs n rest T U dn pend a M m w a' x a1 M1 hQ _ _ _ _ _ hI h hle
    have hnil : Region.ready .any ops listed = [] := by
      rw [List.eq_nil_iff_forall_not_mem]
      intro j hj
      obtain ⟨hSj, o, ho, hd⟩ := (ready_iff hs).1 hj
      unfold todo at hle
      try simp only [pinfo_eq, pund_eq, pfn_eq] at hle
      have hr : rest ++ T = [] := List.eq_nil_of_length_eq_zero (by omega)
      have hf : (dn.filter fun e => !Slist listed e.j) = [] := List.eq_nil_of_length_eq_zero (by omega)
      rcases hI.covers j (Array.getElem?_eq_some_iff.1 ho).1 with h | ⟨e, he, rfl⟩
      · rw [hr] at h; simp at h
      · have := List.filter_eq_nil_iff.1 hf e he
        rw [hSj] at this; simp at this
    exact ⟨hnil, main listed hs hQ hI h hnil⟩
  | succ fuel ih =>
    intro listed hs n rest T U dn pend a M m w a' x a1 M1 hQ hTn hTP hU hG hord hI0 h0 hle0
    refine ⟨main listed hs hQ hI0 h0, fun i hi => ?_⟩
    obtain ⟨rest, dn, pend, a, M, hI, h, hst, htodo, hord', hsub⟩ := advance hI0 h0
    rw [← htodo] at hle0
    replace hord := hord'.trans hord
    replace hG : ∀ j ∈ rest, j ∉ G := fun j hj => hG j (hsub j hj)
    obtain ⟨hSi, o, ho, hd⟩ := (ready_iff hs).1 hi
    have hlt : i < listed.size := by rw [hs]; exact (Array.getElem?_eq_some_iff.1 ho).1
    have hsz : (listed.setIfInBounds i true).size = ops.size := by simpa using hs
    have hfloat : ∀ e ∈ dn, e.j = i → recheck P pend M = true → wpOp P ops Q i (wpAny P .any ops Q fuel (listed.setIfInBounds i true)) a' w := by
      rintro e he rfl hre
      have hoe := (hI.wf.mem e he).1
      rw [ho] at hoe; cases hoe
      refine hI.float hT hfine hre he hSi hd fun m' w' a1' hI' => ?_
      rw [← Slist_set hlt] at hI'
      refine ih _ hsz hQ hTn hTP hU hG hord hI' h ?_
      have hless := filter_less (l := dn) (p := fun f => !Slist listed f.j) (q := fun f => !Slist (listed.setIfInBounds e.j true) f.j) (fun f hf => by
        rw [Slist_set hlt] at hf; simp at hf ⊢; exact hf.1) e he (by simp [hSi]) (by rw [Slist_set hlt]; simp)
      unfold todo at hle0 ⊢
      omega
    have hless2 : ∀ (e : Ent), e.j = i → ((e :: dn).filter fun f => !Slist (listed.setIfInBounds i true) f.j).length ≤ (dn.filter fun f => !Slist listed f.j).length := by
      intro e hej
      have hle : (dn.filter fun f => !Slist (listed.setIfInBounds i true) f.j).length ≤ (dn.filter fun f => !Slist listed f.j).length := by
        rw [← List.countP_eq_length_filter, ← List.countP_eq_length_filter]
        exact List.countP_mono_left fun f _ hf => by
          rw [Slist_set hlt] at hf; simp at hf ⊢; exact hf.1
      have hh : (!Slist (listed.setIfInBounds i true) e.j) = false := by rw [Slist_set hlt, hej]; simp
      simp only [List.filter_cons, hh, Bool.false_eq_true, if_false]
      exact hle
    rcases hI.covers i (by omega) with hr | ⟨e, he, hej⟩
    · cases rest with
      | nil =>
        rw [List.nil_append] at hr hI hle0
        unfold drun at h
        obtain ⟨n', M2, rfl, hsi, hr2, hME⟩ := finT_pick hr hTn h
        have hTw : ∀ j ∈ without i T, TailP ops tbl pre j ∧ j ∈ G ∧ j ∉ i :: U := fun j hj => by
          obtain ⟨h1, h2⟩ := (mem_without hTn).1 hj
          obtain ⟨g1, g2, g3⟩ := hTP j h1
          exact ⟨g1, g2, fun hm => (List.mem_cons.1 hm).elim h2 g3⟩
        have hUw : ∀ k ∈ i :: U, k ∈ G ∧ storeAt ops k = true := fun k hk => by
          rcases List.mem_cons.1 hk with rfl | hk
          · exact ⟨(hTP k hr).2.1, hsi⟩
          · exact hU k hk
        have hord2 : dn.map (·.j) = U ++ pre := by simpa using hord
        have hst2 : statGo ops tbl G (dn.map (·.j)) (i :: without i T) = true := by
          rw [hord2]
          refine statGo_tail (List.nodup_cons.2 ⟨fun hm => ((mem_without hTn).1 hm).2 rfl, nodup_without hTn⟩) (fun j hj => ?_) hU
          rcases List.mem_cons.1 hj with rfl | hj
          · exact hTP j hr
          · exact hTP j ((mem_without hTn).1 hj).1
        have hI2 := hI.reorder (r' := i :: without i T) (fun j => by
          rw [List.mem_cons, mem_without hTn]
          constructor
          · rintro (rfl | h)
            · exact hr
            · exact h.1
          · intro hj
            by_cases hji : j = i
            · exact .inl hji
            · exact .inr ⟨hj, hji⟩) hst2
        obtain ⟨oi, hoi, hsi'⟩ := storeAt_spec hsi
        rw [ho] at hoi; cases hoi
        have hQ2 : ∀ x' a1' w1, Post P base m0 M0 w0 x a1 M2 x' a1' w1 → Q x' a1' w1 := fun x' a1' w1 ⟨m3, p1, p2, p3, p4⟩ => hQ _ _ _ ⟨m3, p1, p2, p3.congr hME, p4.congr hME⟩
        refine hI2.effect hT hfine hC hr2 ho (isStore_kind hsi') (isStore_wanted hsi' a) hd hQ2 fun m' w' a1' pend' a2 M3 e hej hI' h' => ?_
        rw [← Slist_set hlt] at hI'
        refine ih _ hsz (rest := []) (U := i :: U) hQ2 (nodup_without hTn) hTw hUw (by simp) ?_ (by simpa using hI') h' ?_
        · simp [hej, hord2]
        · have := hless2 e hej
          have := length_without hr
          unfold todo at hle0 ⊢
          simp only [List.nil_append] at *
          omega
      | cons j rest =>
        obtain ⟨oj, hoj, hkj, hwj⟩ := hst
        rw [List.cons_append] at hI hr hle0
        by_cases hij : i = j
        · subst hij
          rw [ho] at hoj; cases hoj
          refine hI.effect hT hfine hC h ho hkj hwj hd hQ fun m' w' a1' pend' a2 M2 e hej hI' h' => ?_
          rw [← Slist_set hlt] at hI'
          refine ih _ hsz hQ hTn hTP hU (fun k hk => hG k (by simp [hk])) ?_ hI' h' ?_
          · rw [← hord]; simp [hej]
          · have := hless2 e hej
            unfold todo at hle0 ⊢
            simp only [List.length_cons] at hle0
            omega
        · have hr' : i ∈ rest ++ T := (List.mem_cons.1 hr).resolve_left hij
          obtain ⟨_, _, _, _, _, hst'⟩ := statGo_cons hI.stat
          obtain ⟨hreach, _⟩ := statGo_later hst' j (by simp) (hG j (by simp)) hoj hkj i hr'
          obtain ⟨oi, h1, h2⟩ := hT _ _ hreach
          rw [ho] at h1; cases h1
          have := h2 _ hI.closed hd
          rw [hI.restUn j (by simp)] at this; cases this
    · refine hfloat e he hej ?_
      cases rest with
      | nil =>
        unfold drun at h
        cases n with
        | zero => unfold finT at h; cases h
        | succ n =>
          cases T with
          | nil =>
            unfold finT fin0 at h
            simp only [cond_eq_ite] at h
            split at h
            · assumption
            · cases h
          | cons i0 T =>
            obtain ⟨n', M2, _, hs0, hr0, _⟩ := finT_pick (i := i0) (by simp) hTn h
            obtain ⟨_, _, _, _, _, _, hre⟩ := store_step hs0 hr0
            exact hre
      | cons j rest =>
        obtain ⟨oj, hoj, hkj, hwj⟩ := hst
        unfold drun at h
        rw [hoj] at h
        simp only [cond_eq_ite] at h
        split at h
        case isFalse => cases h
        rw [hwj, hkj] at h
        simp only at h
        split at h
        · assumption
        · cases h

theorem dDraw_ok (hC : COK P base C) : DrawOK P base (dDraw P C) := by
  intro id ops hfine a M x a1 M1 h m w a' hA hj hR
  unfold dDraw at h
  try simp only [pinfo_eq, pund_eq, pfn_eq] at h
  simp only [cond_eq_ite] at h
  split at h
  case isFalse => cases h
  rename_i hmix
  refine wp_region_any hmix ?_
  have hT : TblOK ops (masks ops (eager ops) []) := masks_ok ops _ _ fun j i hr => by simp [reach, lookMask] at hr
  have hS : ∀ j, Slist (Array.replicate ops.size false) j = false := by
    intro j; unfold Slist
    simp only [Array.getD_eq_getD_getElem?, Array.getElem?_replicate]
    split <;> rfl
  have key : ∀ {G p T : List Nat}, (∀ j, j < ops.size → j ∈ p ++ T) → p.length + T.length ≤ ops.size → statGo ops (masks ops (eager ops) []) G [] (p ++ T) = true → ∀ {n : Nat}, T.Nodup →
      (∀ j ∈ T, TailP ops (masks ops (eager ops) []) p.reverse j ∧ j ∈ G) → (∀ j ∈ p, j ∉ G) →
      drun P C ops (masks ops (eager ops) []) (finT P C ops (masks ops (eager ops) []) n T) p [] [] a M = some (x, a1, M1) →
      wpAny P .any ops (Post P base m M w x a1 M1) ops.size (Array.replicate ops.size false) a' { w with drawn := w.drawn + 1 } := by
    intro G p T hcov hlen hst n hTn hTP hG hrun
    have hI : Inv P base ops (masks ops (eager ops) []) G a m M w (Slist (Array.replicate ops.size false)) (p ++ T) [] [] a M m { w with drawn := w.drawn + 1 } a' :=
      ⟨trivial, fun t => rfl, rfl, hj, rfl, hA.small, hA.size, fun t => hA.tmp t (by rw [hj]; simp), hA.defers, hR.heap rfl, Fr.heap rfl rfl rfl rfl, (fun e he => by simp at he), (fun e he => by simp at he),
        (fun e he => by simp at he), (fun j o hjj => by rw [hS] at hjj; cases hjj), (fun j _ => hS j), (fun j hlt => .inl (hcov j hlt)), hst⟩
    exact drun_all hT hfine hC ops.size _ (by simp) (U := []) (pre := p.reverse) (fun _ _ _ h => h) hTn (fun j hj => ⟨(hTP j hj).1, (hTP j hj).2, by simp⟩) (by simp) hG (by simp) hI hrun (by unfold todo; simpa using hlen)
  split at h
  · rename_i hstat
    unfold stat at hstat
    try simp only [pinfo_eq, pund_eq, pfn_eq] at hstat
    simp only [Bool.and_eq_true, Nat.ble_eq, List.all_eq_true, List.mem_range] at hstat
    exact key (G := []) (p := eager ops) (T := []) (n := 1) (fun j hlt => by simpa using memN_iff.1 (hstat.1.2 j hlt)) (by simpa using hstat.1.1) (by simpa using hstat.2) (by simp) (by simp) (by simp) h
  · split at h
    case isFalse => cases h
    rename_i hstat
    unfold statT at hstat
    simp only [Bool.and_eq_true, Nat.ble_eq, List.all_eq_true, List.mem_range, Bool.or_eq_true] at hstat
    obtain ⟨⟨⟨⟨h1, h2⟩, h3⟩, h4⟩, _⟩ := hstat
    obtain ⟨hTn, hTP⟩ := tailOK_spec h4
    refine key (G := (splitTail ops (eager ops)).2) (fun j hlt => ?_) h1 (statGo_append (statGo_mono h3) ?_) hTn (fun j hj => ⟨hTP j hj, hj⟩) (fun j hj hjT => ?_) h
    · rw [List.mem_append]
      exact (h2 j hlt).imp memN_iff.1 memN_iff.1
    · rw [List.append_nil]
      exact statGo_tail (U := []) hTn (fun j hj => ⟨hTP j hj, hj, by simp⟩) (by simp)
    · obtain ⟨_, _, _, _, hnp, _⟩ := hTP j hjT
      exact hnp (by simpa using hj)

/-- the theorem of the engine -/
theorem engine (hfine : fineProg P = true) {K k : Nat} {f : FuncId} {args : Array Value} {M M' : Mem} {r : DEnd} (h : (knotD P (dDraw P) K k).call f args M = some (r, M')) {m : Inj} {w : World} {args' : Array Value}
    (ha : VsRel m args.toList args'.toList) (hR : Rel P base m M w) :
    Calls P f args' w fun e w' => ∃ m', EndRel m' r e ∧ Rel P base m' M' w' ∧ Fr base m m' M M' w w' :=
  (knotD_ok hfine (fun _ hC => dDraw_ok hC) k).call h ha hR
end
end Go.Ab
