/- Each operation of the abstract machine is what the model's operation does. Third part: places, parts, slicing, assertions, maps. -/
import Derived.Test.YtjlbdefkkhfhaaaGreatDoorAbOp2
namespace Go.Ab
open Go
noncomputable section

section
variable {P : Program} {base : Nat} {m : Inj} {M : Mem} {w : World}

theorem dFieldAddr_ok {s : TypeId} {v v' r : Value} {i : Nat} (hv : VRel m v v') (h : dFieldAddr P s v i = some r) :
    ∃ r', (Instr.fieldAt s v' i).run P w = .ok r' w ∧ VRel m r r' := by
  unfold dFieldAddr at h
  try simp only [pund_eq] at h
  split at h
  · rename_i b o fields hu
    obtain ⟨L, hL, rfl⟩ := hv.ptr_inv
    split at h
    · rename_i f hf
      split at h
      · rename_i k hs
        cases h
        refine ⟨.pointer (some ⟨L.block, L.off + (o + f.offset), none⟩), ?_, .ptr hL⟩
        simp [Instr.fieldAt, run_und w hu, hf, Instr.sureAddr, fieldPlace, run_size w hs, add_none, Nat.add_assoc]
      · cases h
    · cases h
  · cases h

theorem dPart_ok {t : TypeId} {cs : List Value} {cs' : Array Value} {off : Nat} {r : Value} (hc : VsRel m cs cs'.toList) (h : dPart P t cs off = some r) :
    ∃ r', (part t cs' off).run P w = .ok r' w ∧ VRel m r r' := by
  unfold dPart at h
  try simp only [pund_eq] at h
  split at h
  · rename_i d n hd hn
    split at h
    · rename_i hagg
      simp only [cond_eq_ite, Nat.ble_eq] at h
      split at h
      · rename_i hle
        cases h
        refine ⟨.agg (cs'.extract off (off + n)), ?_, .agg ?_⟩
        · simp [part, run_isAgg w hd, hagg, run_size w hn]
        · have := (hc.drop off).take n
          simp only [Array.toList_extract, List.extract_eq_take_drop]
          rw [show off + n - off = n by omega]
          exact this
      · cases h
    · rename_i hagg
      obtain ⟨v', h1, h2⟩ := hc.get h
      refine ⟨v', ?_, h2⟩
      have h1' : cs'[off]? = some v' := by rw [← Array.getElem?_toList]; exact h1
      simp [part, run_isAgg w hd, hagg, h1']
  · cases h

theorem dField_ok {s : TypeId} {v v' r : Value} {i : Nat} (hv : VRel m v v') (h : dField P s v i = some r) :
    ∃ r', (Instr.field s v' i).run P w = .ok r' w ∧ VRel m r r' := by
  unfold dField at h
  try simp only [pund_eq] at h
  split at h
  · rename_i cs fields hu
    cases hv with
    | agg hc =>
      split at h
      · rename_i f hf
        obtain ⟨r', h1, h2⟩ := dPart_ok (w := w) hc h
        exact ⟨r', by simp [Instr.field, run_und w hu, hf, asAgg, h1], h2⟩
      · cases h
  · cases h

theorem dIndexAddr_ok {t : TypeId} {x x' ix ix' r : Value} (hx : VRel m x x') (hi : VRel m ix ix') (h : dIndexAddr P t x ix = some r) :
    ∃ r', (Instr.indexAt t x' ix').run P w = .ok r' w ∧ VRel m r r' := by
  unfold dIndexAddr at h
  try simp only [pund_eq] at h
  split at h
  · rename_i len elem b o k i hu
    obtain ⟨L, hL, rfl⟩ := hx.ptr_inv
    cases hi
    split at h
    · rename_i n hn
      simp only [cond_eq_ite, Nat.blt_eq] at h
      split at h
      · rename_i hlt
        cases h
        refine ⟨.pointer (some ⟨L.block, L.off + (o + i * n), none⟩), ?_, .ptr hL⟩
        have hc : (0 : Int) ≤ (i : Int) ∧ (i : Int) < (len : Int) := by omega
        simp [Instr.indexAt, asIntOf, run_und w hu, Instr.sureAddr, hlt, run_size w hn, add_none, Nat.add_assoc]
      · cases h
    · cases h
  · rename_i elem b o len cap k i hu
    cases hi
    cases hx with
    | slice hL =>
      rename_i L
      split at h
      · rename_i n hn
        simp only [cond_eq_ite, Nat.blt_eq] at h
        split at h
        · rename_i hlt
          cases h
          refine ⟨.pointer (some ⟨L.block, L.off + (o + i * n), none⟩), ?_, .ptr hL⟩
          simp [Instr.indexAt, asIntOf, run_und w hu, hlt, run_size w hn, add_none, Nat.add_assoc]
        · cases h
      · cases h
  · cases h

theorem dIndex_ok {t : TypeId} {x x' ix ix' r : Value} (hx : VRel m x x') (hi : VRel m ix ix') (h : dIndex P t x ix = some r) :
    ∃ r', (Instr.index t x' ix').run P w = .ok r' w ∧ VRel m r r' := by
  unfold dIndex at h
  try simp only [pund_eq] at h
  split at h
  · rename_i len elem cs k i hu
    cases hi
    cases hx with
    | agg hc =>
      split at h
      · rename_i n hn
        simp only [cond_eq_ite, Nat.blt_eq] at h
        split at h
        · rename_i hlt
          obtain ⟨r', h1, h2⟩ := dPart_ok (w := w) hc h
          refine ⟨r', ?_, h2⟩
          simp [Instr.index, asIntOf, run_und w hu, hlt, run_size w hn, h1]
        · cases h
      · cases h
  · rename_i s k i hu
    cases hi; cases hx
    split at h
    · rename_i b hb
      cases h
      refine ⟨.int .u8 b.toNat, ?_, .int _ _⟩
      have hb' : s[i]? = some b := by
        rw [← hb, Array.getElem?_toList]; rfl
      simp [Instr.index, asIntOf, run_und w hu, hb']
    · cases h
  · cases h

theorem boundOf_rel {o o' : Option Value} {d l : Nat} (ho : match o, o' with | some v, some v' => VRel m v v' | none, none => True | _, _ => False)
    (h : boundOf o d = some l) : o' = none ∧ o = none ∧ l = d ∨ ∃ k, o' = some (.int k (l : Int)) := by
  unfold boundOf at h
  try simp only [pinfo_eq, pund_eq, pfn_eq] at h
  split at h
  · cases h
    cases o' with
    | none => exact .inl ⟨rfl, rfl, rfl⟩
    | some v => exact ho.elim
  · rename_i k i _
    cases h
    cases o' with
    | none => exact ho.elim
    | some v' => cases ho; exact .inr ⟨_, rfl⟩
  · cases h

def OptRel (m : Inj) (o o' : Option Value) : Prop := match o, o' with | some v, some v' => VRel m v v' | none, none => True | _, _ => False
theorem OptRel.map {ρ ρ' : Operand → Value} {x : Option Operand} (h : ∀ y ∈ x.toList, VRel m (ρ y) (ρ' y)) : OptRel m (x.map ρ) (x.map ρ') := by
  cases x with
  | none => trivial
  | some y => exact h y (by simp)


theorem run_bounds {b : Bool} {len cap l h : Nat} {lo lo' hi hi' : Option Value} (hlo : OptRel m lo lo') (hhi : OptRel m hi hi')
    (h1 : boundOf lo 0 = some l) (h2 : boundOf hi len = some h) (hlh : l ≤ h) (hhc : h ≤ cap) :
    (Instr.sliceBounds b len cap lo' hi' none).run P w = .ok (l, h, cap) w := by
  rcases boundOf_rel hlo h1 with ⟨rfl, _, rfl⟩ | ⟨k, rfl⟩ <;> rcases boundOf_rel hhi h2 with ⟨rfl, _, rfl⟩ | ⟨k', rfl⟩ <;>
    simp [Instr.sliceBounds, Instr.sliceBound, asIntOf, hlh, hhc]

theorem exact_spec (hR : Rel P base m M w) {b : Nat} {L : Loc} (hb : m b = some L) (h : M.exact b = true) : L.extra = 0 := by
  unfold Mem.exact at h
  split at h
  · rename_i c es fz ro hg
    obtain ⟨_, _, _, _, _, hlo, _⟩ := hR.obj b L _ hb hg
    exact (hlo.1 rfl).1
  · cases h

theorem dSlice_ok (hR : Rel P base m M w) {t : TypeId} {x x' r : Value} {lo lo' hi hi' mx mx' : Option Value} (hx : VRel m x x')
    (hlo : OptRel m lo lo') (hhi : OptRel m hi hi') (hmx : OptRel m mx mx') (h : dSlice P t x lo hi mx M = some r) :
    ∃ r', (Instr.sliceAt t x' lo' hi' mx').run P w = .ok r' w ∧ VRel m r r' := by
  unfold dSlice at h
  try simp only [pund_eq] at h
  split at h
  · rename_i elem a len cap hu
    have : mx' = none := by cases mx' with | none => rfl | some v => exact hmx.elim
    subst this
    split at h
    · rename_i l h0 n hl hh hn
      simp only [cond_eq_ite, Bool.and_eq_true, Nat.ble_eq] at h
      split at h
      · rename_i hc
        split at h
        · cases h
          cases hx
          refine ⟨.slice none (h0 - l) (cap - l), ?_, .nilSlice _ _⟩
          simp [Instr.sliceAt, run_und w hu, Instr.slice, run_bounds hlo hhi hl hh hc.1 hc.2, run_size w hn]
        · rename_i b o
          cases hx with
          | slice hL =>
            rename_i L
            have hrun := run_bounds (P := P) (w := w) (b := true) (cap := cap + L.extra) hlo hhi hl hh hc.1 (by omega)
            simp only [Nat.beq_eq, Bool.or_eq_true] at h
            split at h
            · rename_i hlc
              split at h
              · rename_i hex
                cases h
                rcases hex with hex | hz
                · have he := exact_spec hR hL hex
                  refine ⟨.slice (some ⟨L.block, L.off + o, none⟩) (h0 - l) (cap + L.extra - l), ?_, ?_⟩
                  · simp only [Instr.sliceAt, Sem.run_bind, run_und w hu, Result.andThen_ok, Instr.slice, hrun, run_size w hn, Sem.run_pure]
                    rw [if_pos (by omega)]
                  · have := VRel.slice (o := o) (l := h0 - l) (c := cap - l) hL
                    rw [show cap + L.extra - l = cap - l + L.extra by omega]; exact this
                · subst hz
                  refine ⟨.slice (some ⟨L.block, L.off + o, none⟩) (h0 - 0) (cap + L.extra - 0), ?_, ?_⟩
                  · simp only [Instr.sliceAt, Sem.run_bind, run_und w hu, Result.andThen_ok, Instr.slice, hrun, run_size w hn, Sem.run_pure]
                    split
                    · rfl
                    · simp [add_none]
                  · have := VRel.slice (o := o) (l := h0 - 0) (c := cap - 0) hL
                    rw [show cap + L.extra - 0 = cap - 0 + L.extra by omega]; exact this
              · cases h
            · rename_i hlc
              cases h
              refine ⟨.slice (some ⟨L.block, L.off + (o + l * n), none⟩) (h0 - l) (cap + L.extra - l), ?_, ?_⟩
              · simp only [Instr.sliceAt, Sem.run_bind, run_und w hu, Result.andThen_ok, Instr.slice, hrun, run_size w hn, Sem.run_pure]
                rw [if_neg (by omega)]
                simp [add_none, Nat.add_assoc]
              · have := VRel.slice (o := o + l * n) (l := h0 - l) (c := cap - l) hL
                rw [show cap + L.extra - l = cap - l + L.extra by omega]; exact this
        · cases h
      · cases h
    · cases h
  · rename_i len elem b o hu
    have : mx' = none := by cases mx' with | none => rfl | some v => exact hmx.elim
    subst this
    obtain ⟨L, hL, rfl⟩ := hx.ptr_inv
    split at h
    · rename_i l h0 n hl hh hn
      simp only [cond_eq_ite, Bool.and_eq_true, Nat.ble_eq, Nat.beq_eq] at h
      split at h
      · rename_i hc
        cases h
        have he := exact_spec hR hL hc.2
        have hrun := run_bounds (P := P) (w := w) (b := false) hlo hhi hl hh hc.1.1 hc.1.2
        by_cases hlen : len = l
        · refine ⟨.slice (some ⟨L.block, L.off + o, none⟩) (h0 - l) (len - l), ?_, ?_⟩
          · simp only [Instr.sliceAt, Sem.run_bind, run_und w hu, Result.andThen_ok, hrun, run_size w hn, Sem.run_pure, Instr.sureAddr]
            rw [if_pos hlen]
          · have := VRel.slice (o := o) (l := h0 - l) (c := len - l) hL
            rw [he] at this; rw [if_pos hlen]; exact this
        · refine ⟨.slice (some ⟨L.block, L.off + (o + l * n), none⟩) (h0 - l) (len - l), ?_, ?_⟩
          · simp only [Instr.sliceAt, Sem.run_bind, run_und w hu, Result.andThen_ok, hrun, run_size w hn, Sem.run_pure, Instr.sureAddr]
            rw [if_neg hlen, add_none, Nat.add_assoc]
          · have := VRel.slice (o := o + l * n) (l := h0 - l) (c := len - l) hL
            rw [he] at this; rw [if_neg hlen]; exact this
      · cases h
    · cases h
  · rename_i s hu
    have : mx' = none := by cases mx' with | none => rfl | some v => exact hmx.elim
    subst this
    cases hx
    split at h
    · rename_i l h0 hl hh
      simp only [cond_eq_ite, Bool.and_eq_true, Nat.ble_eq] at h
      split at h
      · rename_i hc
        cases h
        refine ⟨.string (s.extract l h0), ?_, .string _⟩
        simp [Instr.sliceAt, run_und w hu, Instr.slice, run_bounds hlo hhi hl hh hc.1 hc.2]
      · cases h
    · cases h
  · cases h

theorem taHold_ok {v v' r : Value} {ok : Bool} (hv : VRel m v v') (h : taHold ok v = some r) :
    VRel m r (if ok then .tuple #[v', .bool true] else v') := by
  cases h
  cases ok with
  | true => exact .tuple (.cons hv (.cons (.bool true) .nil))
  | false => exact hv
theorem taFail_ok {t : TypeId} {r : Value} {ok : Bool} (h : taFail P t ok = some r) :
    ok = true ∧ ∃ z, zeroOf P t = some z ∧ r = .tuple #[z, .bool false] := by
  unfold taFail at h
  try simp only [pinfo_eq, pund_eq, pfn_eq] at h
  split at h
  · rename_i z hz
    cases h
    exact ⟨rfl, z, hz, rfl⟩
  · cases h

theorem dTypeAssert_ok {xt t : TypeId} {x x' r : Value} {ok : Bool} (hx : VRel m x x') (h : dTypeAssert P x t ok = some r) :
    ∃ r', (Instr.typeAssert x' xt t ok).run P w = .ok r' w ∧ VRel m r r' := by
  unfold dTypeAssert at h
  try simp only [pinfo_eq, pund_eq] at h
  split at h
  · rename_i ms hu
    cases hx
    obtain ⟨rfl, z, hz, rfl⟩ := taFail_ok h
    exact ⟨.tuple #[z, .bool false], by simp [Instr.typeAssert, run_und w hu, run_zero w hz], .tuple (.cons (flat_rel (zeroOf_flat hz)) (.cons (.bool _) .nil))⟩
  · rename_i want u v hu
    cases hx with
    | iface hv =>
      rename_i v'
      split at h
      · rename_i i hi
        split at h
        · rename_i hmm
          refine ⟨_, ?_, taHold_ok (.iface hv) h⟩
          simp [Instr.typeAssert, run_und w hu, run_info w hi, hmm]
        · rename_i s hmm
          obtain ⟨rfl, z, hz, rfl⟩ := taFail_ok h
          exact ⟨.tuple #[z, .bool false], by simp [Instr.typeAssert, run_und w hu, run_info w hi, hmm, run_zero w hz], .tuple (.cons (flat_rel (zeroOf_flat hz)) (.cons (.bool _) .nil))⟩
      · cases h
  · rename_i d hnot hu
    cases hx
    obtain ⟨rfl, z, hz, rfl⟩ := taFail_ok h
    refine ⟨.tuple #[z, .bool false], ?_, .tuple (.cons (flat_rel (zeroOf_flat hz)) (.cons (.bool _) .nil))⟩
    cases d <;> first | exact absurd rfl (hnot _) | simp [Instr.typeAssert, run_und w hu, run_zero w hz]
  · rename_i d u v hnot hu
    cases hx with
    | iface hv =>
      rename_i v'
      simp only [cond_eq_ite, Nat.beq_eq] at h
      split at h
      · rename_i hut
        subst hut
        refine ⟨_, ?_, taHold_ok hv h⟩
        cases d <;> first | exact absurd rfl (hnot _) | simp [Instr.typeAssert, run_und w hu]
      · rename_i hut
        obtain ⟨rfl, z, hz, rfl⟩ := taFail_ok h
        refine ⟨.tuple #[z, .bool false], ?_, .tuple (.cons (flat_rel (zeroOf_flat hz)) (.cons (.bool _) .nil))⟩
        cases d <;> first | exact absurd rfl (hnot _) | simp [Instr.typeAssert, run_und w hu, hut, run_zero w hz]
  · cases h
end
end
end Go.Ab
