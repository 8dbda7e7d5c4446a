/- Memory steps: a block made, a block written, a block moved: the relation stays. -/
import Derived.Test.YtjlbdefkkhfhaaaGreatDoorAbRel
namespace Go.Ab
open Go

theorem ERel.mono {m m' : Inj} (hm : m.le m') : ∀ {l l' : List MapEntry}, ERel m l l' → ERel m' l l'
  | [], [], _ => trivial
  | _ :: _, _ :: _, ⟨h1, h2, h3, h4⟩ => ⟨h1, h2, h3.mono hm, ERel.mono hm h4⟩
  | [], _ :: _, h => h.elim
  | _ :: _, [], h => h.elim

theorem ORel.mono {m m' : Inj} {base : Nat} {L : Loc} {w w' : World} (hm : m.le m') (hw : w'.heap[L.block]? = w.heap[L.block]?) {o : AObj}
    (h : ORel m base L w o) : ORel m' base L w' o := by
  cases o with
  | cells c es lo fz ro =>
    obtain ⟨cc, e, f, h1, h2, h3⟩ := h
    exact ⟨cc, e, f, by rw [hw]; exact h1, h2.mono hm, h3⟩
  | map es =>
    obtain ⟨es', k, h1, h2, h3⟩ := h
    exact ⟨es', k, by rw [hw]; exact h1, h2.mono hm, h3⟩
  | chan c =>
    obtain ⟨s, r, h1, h2⟩ := h
    exact ⟨s, r, by rw [hw]; exact h1, h2⟩
  | dead => trivial

section
variable {P : Program} {base : Nat} {m : Inj} {M : Mem} {w : World}

theorem Mem.get_put_same (M : Mem) {b : Nat} (o : AObj) (h : b < 4294967296) : (M.put b o).get b = some o :=
  show (Tr.set depth M.t b o).get b = some o from Tr.get_set_same _ _ _ _ (by unfold depth; omega)
theorem Mem.get_put_ne (M : Mem) {b b' : Nat} (o : AObj) (h : b' ≠ b) : (M.put b o).get b' = M.get b' :=
  show (Tr.set depth M.t b o).get b' = M.t.get b' from Tr.get_set_ne _ _ _ _ _ h

theorem Rel.b_lt (hR : Rel P base m M w) {b : Nat} {L : Loc} (hb : m b = some L) : b < 4294967296 := by
  have := hR.fresh b L hb
  have := hR.small
  omega

theorem Rel.base_le (hR : Rel P base m M w) {b : Nat} {L : Loc} (hb : m b = some L) (ho : M.own b) : base ≤ L.block := by
  obtain ⟨o, hg, hown⟩ := ho
  have h := hR.obj b L o hb hg
  cases o with
  | cells c es lo fz ro =>
    obtain ⟨_, _, _, _, _, _, _, h3⟩ := h
    simp only [AObj.own, Bool.not_eq_true'] at hown
    exact (h3 hown).1
  | map es => obtain ⟨_, _, _, _, h3⟩ := h; exact h3
  | chan c => obtain ⟨_, _, _, h3⟩ := h; exact h3
  | dead => simp [AObj.own] at hown

/-- an owned block is written, whole -/
theorem Rel.put (hR : Rel P base m M w) {b : Nat} {L : Loc} (hb : m b = some L) (ho : M.own b) {o' : AObj} {w' : World}
    (hs : w'.heap.size = w.heap.size) (hw : ∀ B, B ≠ L.block → w'.heap[B]? = w.heap[B]?) (h' : ORel m base L w' o') :
    Rel P base m (M.put b o') w' := by
  have hlt := hR.b_lt hb
  have hbase := hR.base_le hb ho
  have sub : ∀ x, (M.put b o').own x → M.own x := by
    intro x hx
    by_cases hxb : x = b
    · rw [hxb]; exact ho
    · obtain ⟨o, hg, hown⟩ := hx
      rw [M.get_put_ne o' hxb] at hg
      exact ⟨o, hg, hown⟩
  refine ⟨hR.low, ?_, ?_, ?_, hR.fresh, by rw [hs]; exact hR.base, hR.small⟩
  · intro x Lx ox hx hg
    by_cases hxb : x = b
    · subst hxb
      rw [M.get_put_same o' hlt] at hg
      cases hg
      rw [hb] at hx; cases hx
      exact h'
    · rw [M.get_put_ne o' hxb] at hg
      have hox := hR.obj x Lx ox hx hg
      have hne : ox.own = true → Lx.block ≠ L.block := fun hown he => hxb (hR.apart x b Lx L hx hb ⟨ox, hg, hown⟩ ho he)
      cases ox with
      | dead => trivial
      | map es => exact hox.mono (Inj.le_refl m) (hw _ (hne rfl))
      | chan c => exact hox.mono (Inj.le_refl m) (hw _ (hne rfl))
      | cells c es lo fz ro =>
        cases ro with
        | false => exact hox.mono (Inj.le_refl m) (hw _ (hne rfl))
        | true =>
          have h4 : Lx.block < base := by obtain ⟨_, _, _, _, _, _, h4, _⟩ := hox; exact h4 rfl
          exact hox.mono (Inj.le_refl m) (hw _ (by omega))
  · intro x y Lx Ly hx hy ox oy he
    exact hR.apart x y Lx Ly hx hy (sub x ox) (sub y oy) he
  · intro x Lx hx; rw [hs]; exact hR.live x Lx hx

theorem Fr.put (hR : Rel P base m M w) {b : Nat} {L : Loc} (hb : m b = some L) (ho : M.own b) {w' : World}
    (h1 : w'.os = w.os) (h2 : w'.tape = w.tape) (h3 : w'.output = w.output)
    (hs : w'.heap.size = w.heap.size) (hw : ∀ B, B ≠ L.block → w'.heap[B]? = w.heap[B]?) (o' : AObj) : Fr base m m M (M.put b o') w w' := by
  have hbase := hR.base_le hb ho
  refine ⟨Inj.le_refl m, h1, h2, h3, by omega, ?_, fun x Lx hx hx' => by simp [hx] at hx', Nat.le_refl _, fun x _ hx => M.get_put_ne o' (fun e => by rw [e, hb] at hx; cases hx), fun x Lx hx hx' => by simp [hx] at hx'⟩
  intro B hB hm
  refine hw B fun he => ?_
  have := hm b L hb he.symm
  omega

def Inj.set (m : Inj) (b : Nat) (L : Loc) : Inj := fun x => if x = b then some L else m x
theorem Inj.set_same (m : Inj) (b : Nat) (L : Loc) : m.set b L b = some L := by simp [Inj.set]
theorem Inj.set_ne (m : Inj) {b x : Nat} (L : Loc) (h : x ≠ b) : m.set b L x = m x := by simp [Inj.set, h]
theorem Inj.le_set {m : Inj} {b : Nat} (L : Loc) (h : m b = none) : m.le (m.set b L) := by
  intro x Lx hx
  rw [Inj.set_ne]
  · exact hx
  · intro he; subst he; simp [h] at hx

theorem Mem.new_spec {M M' : Mem} {o : AObj} {b : Nat} (h : M.new o = some (b, M')) :
    b = M.next ∧ M'.next = M.next + 1 ∧ M.next < 4294967296 ∧ M'.get b = some o ∧ ∀ x, x ≠ b → M'.get x = M.get x := by
  simp only [Mem.new, cond_eq_ite] at h
  split at h
  · rename_i hlt
    have hlt' : M.next < 4294967296 := by simpa [Nat.blt_eq] using hlt
    simp only [Option.some.injEq, Prod.mk.injEq] at h
    obtain ⟨rfl, rfl⟩ := h
    exact ⟨rfl, rfl, hlt', (show (Tr.set depth M.t M.next o).get M.next = some o from Tr.get_set_same _ _ _ _ (by unfold depth; omega)), fun x hx => show (Tr.set depth M.t M.next o).get x = M.t.get x from Tr.get_set_ne _ _ _ _ _ hx⟩
  · cases h

/-- a block is made -/
theorem Rel.made (hR : Rel P base m M w) {b : Nat} {M' : Mem} {o : AObj} (h : M.new o = some (b, M')) {L : Loc} {w' : World}
    (hL : w.heap.size ≤ L.block) (hL' : L.block < w'.heap.size) (hs : w.heap.size ≤ w'.heap.size) (hw : ∀ B, B < w.heap.size → w'.heap[B]? = w.heap[B]?)
    (ho : ORel (m.set b L) base L w' o) :
    m b = none ∧ Rel P base (m.set b L) M' w' := by
  obtain ⟨hb, hn, hlt, hg, hne⟩ := Mem.new_spec h
  have hnone : m b = none := by
    cases hmb : m b with
    | none => rfl
    | some L' => have := hR.fresh b L' hmb; omega
  have hle := Inj.le_set L hnone
  refine ⟨hnone, ?_, ?_, ?_, ?_, ?_, Nat.le_trans hR.base hs, by omega⟩
  · intro g hg; exact hle _ _ (hR.low g hg)
  · intro x Lx ox hx hgx
    by_cases hxb : x = b
    · subst hxb
      rw [Inj.set_same] at hx; cases hx
      rw [hg] at hgx; cases hgx
      exact ho
    · rw [Inj.set_ne _ _ hxb] at hx
      rw [hne x hxb] at hgx
      exact (hR.obj x Lx ox hx hgx).mono hle (hw _ (hR.live x Lx hx))
  · intro x y Lx Ly hx hy ox oy he
    have down : ∀ z, z ≠ b → M'.own z → M.own z := fun z hz ⟨oz, h1, h2⟩ => ⟨oz, by rw [← hne z hz]; exact h1, h2⟩
    by_cases hxb : x = b
    · by_cases hyb : y = b
      · rw [hxb, hyb]
      · subst hxb
        rw [Inj.set_same] at hx; cases hx
        rw [Inj.set_ne _ _ hyb] at hy
        have := hR.live y Ly hy
        omega
    · rw [Inj.set_ne _ _ hxb] at hx
      by_cases hyb : y = b
      · subst hyb
        rw [Inj.set_same] at hy; cases hy
        have := hR.live x Lx hx
        omega
      · rw [Inj.set_ne _ _ hyb] at hy
        exact hR.apart x y Lx Ly hx hy (down x hxb ox) (down y hyb oy) he
  · intro x Lx hx
    by_cases hxb : x = b
    · subst hxb; rw [Inj.set_same] at hx; cases hx; exact hL'
    · rw [Inj.set_ne _ _ hxb] at hx; exact Nat.lt_of_lt_of_le (hR.live x Lx hx) hs
  · intro x Lx hx
    by_cases hxb : x = b
    · omega
    · rw [Inj.set_ne _ _ hxb] at hx; have := hR.fresh x Lx hx; omega

theorem Fr.made (hR : Rel P base m M w) {b : Nat} {L : Loc} {o : AObj} {M' : Mem} (hnew : M.new o = some (b, M')) (hnone : m b = none) {w' : World}
    (h1 : w'.os = w.os) (h2 : w'.tape = w.tape) (h3 : w'.output = w.output) (hL : w.heap.size ≤ L.block)
    (hs : w.heap.size ≤ w'.heap.size) (hw : ∀ B, B < w.heap.size → w'.heap[B]? = w.heap[B]?) : Fr base m (m.set b L) M M' w w' := by
  obtain ⟨hb, hn, _, _, hne⟩ := Mem.new_spec hnew
  refine ⟨Inj.le_set L hnone, h1, h2, h3, hs, fun B hB _ => hw B hB, ?_, by omega, fun x hx _ => hne x (by omega), fun x Lx hx hx' => ?_⟩
  rotate_left
  · by_cases hxb : x = b
    · omega
    · rw [Inj.set_ne _ _ hxb] at hx; simp [hx] at hx'
  intro x Lx hx hx'
  by_cases hxb : x = b
  · subst hxb; rw [Inj.set_same] at hx; cases hx
    exact ⟨Nat.le_trans hR.base hL, .inl hL⟩
  · rw [Inj.set_ne _ _ hxb] at hx; simp [hx] at hx'

/-- a block is moved to a new name, within the concrete block that was its own -/
theorem Rel.move (hR : Rel P base m M w) {b b' : Nat} {L L' : Loc} (hb : m b = some L) (ho : M.own b) {M' : Mem} {o : AObj}
    (h : (M.put b .dead).new o = some (b', M')) {w' : World} (hL : L'.block = L.block)
    (hs : w'.heap.size = w.heap.size) (hw : ∀ B, B ≠ L.block → w'.heap[B]? = w.heap[B]?) (h' : ORel (m.set b' L') base L' w' o) :
    m b' = none ∧ Rel P base (m.set b' L') M' w' := by
  have hlt := hR.b_lt hb
  have hbase := hR.base_le hb ho
  obtain ⟨hb', hn, hltn, hg, hne⟩ := Mem.new_spec h
  have hput : (M.put b .dead).next = M.next := rfl
  rw [hput] at hb' hn hltn
  have hnone : m b' = none := by
    cases hmb : m b' with
    | none => rfl
    | some L1 => have := hR.fresh b' L1 hmb; omega
  have hbb : b ≠ b' := fun e => by rw [e] at hb; simp [hnone] at hb
  have hle := Inj.le_set L' hnone
  have down : ∀ z, z ≠ b' → M'.own z → z ≠ b ∧ M.own z := by
    intro z hz hown
    obtain ⟨oz, h1, h2⟩ := hown
    rw [hne z hz] at h1
    by_cases hzb : z = b
    · subst hzb
      rw [M.get_put_same _ hlt] at h1
      cases h1
      simp [AObj.own] at h2
    · rw [M.get_put_ne _ hzb] at h1
      exact ⟨hzb, oz, h1, h2⟩
  refine ⟨hnone, ?_, ?_, ?_, ?_, ?_, by rw [hs]; exact hR.base, by omega⟩
  · intro g hg; exact hle _ _ (hR.low g hg)
  · intro x Lx ox hx hgx
    by_cases hxb : x = b'
    · subst hxb
      rw [Inj.set_same] at hx; cases hx
      rw [hg] at hgx; cases hgx
      exact h'
    · rw [Inj.set_ne _ _ hxb] at hx
      rw [hne x hxb] at hgx
      by_cases hxb0 : x = b
      · subst hxb0
        rw [M.get_put_same _ hlt] at hgx
        cases hgx
        trivial
      · rw [M.get_put_ne _ hxb0] at hgx
        have hox := hR.obj x Lx ox hx hgx
        have hdiff : ox.own = true → Lx.block ≠ L.block := fun hown he => hxb0 (hR.apart x b Lx L hx hb ⟨ox, hgx, hown⟩ ho he)
        cases ox with
        | dead => trivial
        | map es => exact hox.mono hle (hw _ (hdiff rfl))
        | chan c => exact hox.mono hle (hw _ (hdiff rfl))
        | cells c es lo fz ro =>
          cases ro with
          | false => exact hox.mono hle (hw _ (hdiff rfl))
          | true =>
            have h4 : Lx.block < base := by obtain ⟨_, _, _, _, _, _, h4, _⟩ := hox; exact h4 rfl
            exact hox.mono hle (hw _ (by omega))
  · intro x y Lx Ly hx hy ox oy he
    by_cases hxb : x = b'
    · by_cases hyb : y = b'
      · rw [hxb, hyb]
      · subst hxb
        rw [Inj.set_same] at hx; cases hx
        rw [Inj.set_ne _ _ hyb] at hy
        obtain ⟨hyb0, hyo⟩ := down y hyb oy
        exact absurd (hR.apart y b Ly L hy hb hyo ho (he.symm.trans hL)) hyb0
    · rw [Inj.set_ne _ _ hxb] at hx
      obtain ⟨hxb0, hxo⟩ := down x hxb ox
      by_cases hyb : y = b'
      · subst hyb
        rw [Inj.set_same] at hy; cases hy
        exact absurd (hR.apart x b Lx L hx hb hxo ho (he.trans hL)) hxb0
      · rw [Inj.set_ne _ _ hyb] at hy
        exact hR.apart x y Lx Ly hx hy hxo (down y hyb oy).2 he
  · intro x Lx hx
    rw [hs]
    by_cases hxb : x = b'
    · subst hxb; rw [Inj.set_same] at hx; cases hx; rw [hL]; exact hR.live b L hb
    · rw [Inj.set_ne _ _ hxb] at hx; exact hR.live x Lx hx
  · intro x Lx hx
    by_cases hxb : x = b'
    · omega
    · rw [Inj.set_ne _ _ hxb] at hx; have := hR.fresh x Lx hx; omega

theorem Fr.move (hR : Rel P base m M w) {b b' : Nat} {L L' : Loc} (hb : m b = some L) (ho : M.own b) (hnone : m b' = none) {o : AObj} {M' : Mem} (hnew : (M.put b .dead).new o = some (b', M')) {w' : World}
    (h1 : w'.os = w.os) (h2 : w'.tape = w.tape) (h3 : w'.output = w.output) (hL : L'.block = L.block)
    (hs : w'.heap.size = w.heap.size) (hw : ∀ B, B ≠ L.block → w'.heap[B]? = w.heap[B]?) : Fr base m (m.set b' L') M M' w w' := by
  have hbase := hR.base_le hb ho
  obtain ⟨hb', hn, _, _, hne⟩ := Mem.new_spec hnew
  have hput : (M.put b .dead).next = M.next := rfl
  rw [hput] at hb' hn
  refine ⟨Inj.le_set L' hnone, h1, h2, h3, by omega, ?_, ?_, by omega, fun x hx hxm => (hne x (by omega)).trans (M.get_put_ne _ (fun e => by rw [e, hb] at hxm; cases hxm)), fun x Lx hx hx' => ?_⟩
  rotate_left 2
  · by_cases hxb : x = b'
    · omega
    · rw [Inj.set_ne _ _ hxb] at hx; simp [hx] at hx'
  · intro B hB hm
    refine hw B fun he => ?_
    have := hm b L hb he.symm
    omega
  · intro x Lx hx hx'
    by_cases hxb : x = b'
    · subst hxb; rw [Inj.set_same] at hx; cases hx
      exact ⟨by omega, .inr ⟨b, L, hb, hL.symm⟩⟩
    · rw [Inj.set_ne _ _ hxb] at hx; simp [hx] at hx'

/-- a draw, a mark: the heap stays -/
theorem Rel.heap (hR : Rel P base m M w) {w' : World} (h : w'.heap = w.heap) : Rel P base m M w' :=
  ⟨hR.low, fun b L o hb hg => (hR.obj b L o hb hg).mono (Inj.le_refl m) (by rw [h]), hR.apart, fun b L hb => by rw [h]; exact hR.live b L hb, hR.fresh,
    by rw [h]; exact hR.base, hR.small⟩
theorem Fr.heap {w' : World} (h0 : w'.heap = w.heap) (h1 : w'.os = w.os) (h2 : w'.tape = w.tape) (h3 : w'.output = w.output) : Fr base m m M M w w' :=
  ⟨Inj.le_refl m, h1, h2, h3, by rw [h0]; exact Nat.le_refl _, fun _ _ _ => by rw [h0], fun b L hb hb' => by simp [hb] at hb', Nat.le_refl _, fun _ _ _ => rfl, fun b L hb hb' => by simp [hb] at hb'⟩

/-! ### reading -/
theorem cell_of_heap {w : World} {B : Nat} {cc : Array Value} {e : TypeId} {fz : Nat × Nat} (h : w.heap[B]? = some (.cells cc e fz)) (o : Nat) :
    w.cell? ⟨B, o, none⟩ = cc[o]? := by
  simp [World.cell?, h]

theorem nth_eq {α : Type} : ∀ (l : List α) (k : Nat), nth l k = l[k]?
  | [], _ => rfl
  | a :: l, k => by
    show Bool.rec (motive := fun _ => Option α) (nth l (k - 1)) (some a) (Nat.beq k 0) = _
    cases k with
    | zero => rfl
    | succ k => exact nth_eq l k
theorem Mem.read_eq (M : Mem) (b o n : Nat) : M.read b o n =
    match M.get b with
    | some (.cells c _ _ _ _) => bif Nat.ble (o + n) c.length then some ((c.drop o).take n) else none
    | _ => none := by
  unfold Mem.read
  cases M.get b with
  | none => rfl
  | some ob =>
    cases ob with
    | map es => rfl
    | chan c => rfl
    | dead => rfl
    | cells c es lo fz ro =>
      simp only
      cases hn : Nat.beq n 1 with
      | false => rfl
      | true =>
        have h1 : n = 1 := Nat.eq_of_beq_eq_true hn
        subst h1
        show (match nth c o with | some x => some [x] | none => none) = _
        rw [nth_eq]
        simp only [cond_eq_ite, Nat.ble_eq]
        by_cases ho : o + 1 ≤ c.length
        · rw [if_pos ho]
          have hlt : o < c.length := by omega
          rw [List.getElem?_eq_getElem hlt, List.drop_eq_getElem_cons hlt]
          rfl
        · rw [if_neg ho, List.getElem?_eq_none (by omega)]

theorem read_spec (hR : Rel P base m M w) {b o n : Nat} {L : Loc} {cs : List Value} (hb : m b = some L) (h : M.read b o n = some cs) :
    ∃ cs', VsRel m cs cs' ∧ cs'.length = n ∧ ∀ j v, cs'[j]? = some v → w.cell? ⟨L.block, L.off + o + j, none⟩ = some v := by
  rw [Mem.read_eq] at h
  split at h
  · rename_i c es lo fz ro hg
    simp only [cond_eq_ite, Nat.ble_eq] at h
    split at h
    · rename_i hle
      cases h
      obtain ⟨cc, e, f, hh, hv, _⟩ := hR.obj b L _ hb hg
      refine ⟨((seg cc L.off c.length).drop o).take n, (hv.drop o).take n, ?_, ?_⟩
      · have := hv.length
        simp [List.length_take, List.length_drop, this]
        omega
      · intro j v hj
        rw [cell_of_heap hh]
        unfold seg at hj
        try simp only [pinfo_eq, pund_eq, pfn_eq] at hj
        rw [List.getElem?_take] at hj
        split at hj
        · rename_i hjn
          rw [List.getElem?_drop, List.getElem?_take] at hj
          split at hj
          · rw [List.getElem?_drop] at hj
            rw [← hj, Array.getElem?_toList]
            congr 1; omega
          · cases hj
        · cases hj
    · cases h
  · cases h

theorem add_none (B o j : Nat) : (⟨B, o, none⟩ : Addr).add j = ⟨B, o + j, none⟩ := by
  unfold Addr.add
  split
  · rename_i h; subst h; rfl
  · rfl

theorem loadCells_run {cs' : List Value} {B o : Nat} {n : Nat} (hn : cs'.length = n) (h : ∀ j v, cs'[j]? = some v → w.cell? ⟨B, o + j, none⟩ = some v) :
    (loadCells ⟨B, o, none⟩ n).run P w = .ok cs'.toArray w := by
  subst hn
  exact run_loadCells_list w _ cs' fun j v hj => by rw [add_none]; exact h j v hj

/-! ### writing -/
def rowSet (w : World) (B : Nat) (cc : Array Value) (e : TypeId) (fz : Nat × Nat) : World :=
  { w with heap := w.heap.setIfInBounds B (.cells cc e fz) }

theorem setCell_row {w : World} {B o : Nat} {cc : Array Value} {e : TypeId} {fz : Nat × Nat} (h : w.heap[B]? = some (.cells cc e fz)) (v : Value) :
    w.setCell ⟨B, o, none⟩ v = rowSet w B (cc.setIfInBounds o v) e fz := by
  unfold World.setCell rowSet
  congr 1
  apply Array.ext_getElem?
  intro i
  rw [Array.getElem?_modify, Array.getElem?_setIfInBounds]
  by_cases hi : B = i
  · subst hi
    rw [if_pos rfl, if_pos rfl, h]
    have : B < w.heap.size := by
      rcases Nat.lt_or_ge B w.heap.size with h' | h'
      · exact h'
      · simp [Array.getElem?_eq_none h'] at h
    rw [if_pos this]
    rfl
  · rw [if_neg hi, if_neg hi]

theorem setRow_heap {w : World} {B : Nat} {cc : Array Value} {e : TypeId} {fz : Nat × Nat} (h : B < w.heap.size) :
    (rowSet w B cc e fz).heap[B]? = some (.cells cc e fz) := by
  simp [rowSet, h]
theorem setRow_heap_ne {w : World} {B x : Nat} {cc : Array Value} {e : TypeId} {fz : Nat × Nat} (h : x ≠ B) :
    (rowSet w B cc e fz).heap[x]? = w.heap[x]? := by
  simp [rowSet, Ne.symm h]
theorem setRow_size {w : World} {B : Nat} {cc : Array Value} {e : TypeId} {fz : Nat × Nat} : (rowSet w B cc e fz).heap.size = w.heap.size := by
  simp [rowSet]
theorem setRow_setRow {w : World} {B : Nat} {cc cc' : Array Value} {e e' : TypeId} {fz fz' : Nat × Nat} :
    rowSet (rowSet w B cc e fz) B cc' e' fz' = rowSet w B cc' e' fz' := by
  simp [rowSet, Array.setIfInBounds_setIfInBounds]
theorem lt_of_heap {w : World} {B : Nat} {o : Obj} (h : w.heap[B]? = some o) : B < w.heap.size := by
  rcases Nat.lt_or_ge B w.heap.size with h' | h'
  · exact h'
  · simp [Array.getElem?_eq_none h'] at h
theorem setRow_self {w : World} {B : Nat} {cc : Array Value} {e : TypeId} {fz : Nat × Nat} (h : w.heap[B]? = some (.cells cc e fz)) :
    rowSet w B cc e fz = w := by
  have : w.heap.setIfInBounds B (.cells cc e fz) = w.heap := by
    apply Array.ext_getElem?
    intro i
    rw [Array.getElem?_setIfInBounds]
    split
    · rename_i hi; subst hi; rw [if_pos (lt_of_heap h), h]
    · rfl
  simp [rowSet, this]

theorem splice_nil (c : List Value) (o : Nat) : splice c o [] = c := by simp [splice]
theorem splice_cons (c : List Value) (o : Nat) (v : Value) (vs : List Value) (h : o < c.length) :
    splice (c.set o v) (o + 1) vs = splice c o (v :: vs) := by
  unfold splice
  have h1 : (c.set o v).take (o + 1) = c.take o ++ [v] := by
    rw [List.take_succ_eq_append_getElem (by simpa using h), List.take_set_of_le (Nat.le_refl o)]
    simp
  have h2 : (c.set o v).drop (o + 1 + vs.length) = c.drop (o + (v :: vs).length) := by
    rw [List.drop_set_of_lt (by omega)]
    congr 1
    simp; omega
  rw [h1, h2]
  simp [List.append_assoc]
theorem splice_length (c vs : List Value) (o : Nat) (h : o + vs.length ≤ c.length) : (splice c o vs).length = c.length := by
  unfold splice
  simp [List.length_take, List.length_drop]
  omega

theorem oneCell_eq (v : Value) : v.oneCell' = oneCell v := by cases v <;> rfl

theorem storeCells_run : ∀ (vs : List Value) (i : Nat) (w : World) (cc : Array Value) (B o : Nat) (e : TypeId) (fz : Nat × Nat),
    w.heap[B]? = some (.cells cc e fz) → o + i + vs.length ≤ cc.size → vs.all oneCell = true → (∀ j, j < cc.size → ¬(fz.1 ≤ j ∧ j < fz.2)) →
    (storeCells ⟨B, o, none⟩ vs i).run P w = .ok () (rowSet w B (splice cc.toList (o + i) vs).toArray e fz)
  | [], i, w, cc, B, o, e, fz, hh, _, _, _ => by
    simp only [storeCells, Sem.run_pure, splice_nil]
    rw [show cc.toList.toArray = cc from rfl, setRow_self hh]
  | v :: vs, i, w, cc, B, o, e, fz, hh, hle, hone, hfz => by
    simp only [List.all_cons, Bool.and_eq_true] at hone
    simp only [List.length_cons] at hle
    have hlt : o + i < cc.size := by omega
    simp only [storeCells, Sem.run_bind, add_none]
    rw [run_store _ _ _ _ _ (by rw [oneCell_eq]; exact hone.1), cell_of_heap hh, Array.getElem?_eq_getElem hlt]
    have hfr : w.frozen? ⟨B, o + i, none⟩ = false := by
      have := hfz (o + i) hlt
      simp only [World.frozen?, hh]
      rw [Bool.and_eq_false_iff, decide_eq_false_iff_not, decide_eq_false_iff_not]
      omega
    simp only [hfr, Bool.false_eq_true, if_false, Result.andThen_ok]
    rw [setCell_row hh]
    have hB := lt_of_heap hh
    have hcc : (cc.setIfInBounds (o + i) v).toList = cc.toList.set (o + i) v := by simp
    have := storeCells_run vs (i + 1) (rowSet w B (cc.setIfInBounds (o + i) v) e fz) (cc.setIfInBounds (o + i) v) B o e fz (setRow_heap hB)
      (by simp; omega) hone.2 (fun j hj => hfz j (by simpa using hj))
    rw [this, setRow_setRow, hcc]
    rw [show o + (i + 1) = o + i + 1 by omega, splice_cons _ _ _ _ (by simpa using hlt)]

theorem seg_splice {cc : Array Value} {O n o : Nat} {vs : List Value} (h : o + vs.length ≤ n) (hn : O + n ≤ cc.size) :
    seg (splice cc.toList (O + o) vs).toArray O n = splice (seg cc O n) o vs := by
  have h0 : cc.toList.length = cc.size := rfl
  apply List.ext_getElem?
  intro i
  simp only [seg, splice, List.getElem?_take, List.getElem?_drop, List.getElem?_append, List.length_append, List.length_take, List.length_drop, h0]
  repeat' split
  all_goals (first
    | omega
    | rfl
    | (congr 1; omega)
    | (rw [List.getElem?_eq_none (by simp; omega)]; done)
    | (symm; rw [List.getElem?_eq_none (by simp; omega)]; done)
    | skip)
end
end Go.Ab
