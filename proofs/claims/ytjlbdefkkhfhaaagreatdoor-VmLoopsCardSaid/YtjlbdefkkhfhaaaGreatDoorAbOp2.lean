/- Each operation of the abstract machine is what the model's operation does. Second part: aggregates, slices, places. -/
import Derived.Test.YtjlbdefkkhfhaaaGreatDoorAbOp
import Derived.IntWalk
namespace Go.Ab
open Go
noncomputable section

inductive PsRel (m : Inj) : List (Nat × Value) → List (Nat × Value) → Prop
  | nil : PsRel m [] []
  | cons {i : Nat} {v v' : Value} {l l' : List (Nat × Value)} (h : VRel m v v') (hs : PsRel m l l') : PsRel m ((i, v) :: l) ((i, v') :: l')

theorem pairs_rel {m : Inj} {ρ ρ' : Operand → Value} {ps : Array (Nat × Operand)} (h : ∀ x ∈ (ps.toList.map (·.2)).toArray, VRel m (ρ x) (ρ' x)) :
    PsRel m (pairs ρ ps) (pairs ρ' ps) := by
  unfold pairs
  generalize ps.toList = l at *
  induction l with
  | nil => exact .nil
  | cons p l ih =>
    obtain ⟨i, x⟩ := p
    exact .cons (h x (by simp)) (ih fun y hy => h y (by simp only [List.mem_toArray, List.map_cons, List.mem_cons] at *; exact .inr hy))
theorem pairs_eq (ρ : Operand → Value) (ps : Array (Nat × Operand)) : (ps.map fun (i, x) => (i, ρ x)).toList = pairs ρ ps := by
  simp [pairs]

theorem foldl_splice : ∀ (vs : List Value) (k off : Nat) (cs : Array Value), off + k + vs.length ≤ cs.size →
    ((vs.zipIdx k).foldl (fun (cs : Array Value) (p : Value × Nat) => cs.setIfInBounds (off + p.2) p.1) cs).toList = splice cs.toList (off + k) vs
  | [], k, off, cs, _ => by simp [splice_nil]
  | v :: vs, k, off, cs, h => by
    simp only [List.length_cons] at h
    simp only [List.zipIdx_cons, List.foldl_cons]
    rw [foldl_splice vs (k + 1) off _ (by simp; omega)]
    have hl : cs.toList.length = cs.size := rfl
    rw [Array.toList_setIfInBounds, show off + (k + 1) = off + k + 1 by omega, splice_cons _ _ _ _ (by omega)]

theorem dFill_ok {m : Inj} (place : Nat → Option (Nat × Nat)) : ∀ {ps ps' : List (Nat × Value)} {cells cs : List Value} {cells' : Array Value},
    PsRel m ps ps' → VsRel m cells cells'.toList → dFill place cells ps = some cs → ∃ cs', Instr.fill place cells' ps' = some cs' ∧ VsRel m cs cs'.toList
  | [], _, cells, cs, cells', hp, hc, h => by
    cases hp; simp only [dFill, Option.some.injEq] at h; subst h; exact ⟨cells', rfl, hc⟩
  | (i, v) :: ps, _, cells, cs, cells', hp, hc, h => by
    cases hp with
    | cons hv hs =>
      rename_i v' ps'
      simp only [dFill] at h
      split at h
      · cases h
      · rename_i off size hpl
        simp only [cond_eq_ite, Bool.and_eq_true, Nat.beq_eq, Nat.ble_eq] at h
        split at h
        · rename_i hcond
          have hvc := hv.cells
          have hvl := hvc.length
          have hcl := hc.length
          have e1 : v'.cells.size = size := by rw [← Array.length_toList]; omega
          have e2 : off + v'.cells.size ≤ cells'.size := by rw [← Array.length_toList (xs := cells')]; omega
          have hfold : (v'.cells.zipIdx.foldl (fun (cs : Array Value) (p : Value × Nat) => cs.setIfInBounds (off + p.2) p.1) cells').toList = splice cells'.toList off v'.cells.toList := by
            rw [← Array.foldl_toList, Array.toList_zipIdx]
            have := foldl_splice v'.cells.toList 0 off cells' (by rw [Array.length_toList]; omega)
            simpa using this
          obtain ⟨cs', hfill, hrel⟩ := dFill_ok place (cells' := v'.cells.zipIdx.foldl (fun (cs : Array Value) (p : Value × Nat) => cs.setIfInBounds (off + p.2) p.1) cells') hs (by rw [hfold]; exact hc.splice hvc off) h
          refine ⟨cs', ?_, hrel⟩
          simp only [Instr.fill, hpl]
          rw [if_neg (by simp [e1]; omega)]
          exact hfill
        · cases h

section
variable {P : Program} {base : Nat} {m : Inj} {M : Mem} {w : World}

theorem run_places : ∀ {fs : List Field} {ps : List (Nat × Nat)}, places P fs = some ps →
    (fs.mapM fun f => Prod.mk f.offset <$> sizeOf f.type).run P w = .ok ps w
  | [], ps, h => by simp only [places, Option.some.injEq] at h; subst h; rfl
  | f :: fs, ps, h => by
    simp only [places] at h
    split at h
    · rename_i n hn
      cases hp : places P fs with
      | none => simp [hp] at h
      | some ps' =>
        rw [hp] at h; cases h
        simp [List.mapM_cons, run_size w hn, run_places hp]
    · cases h

theorem dBuild_ok {t : TypeId} {ps ps' : List (Nat × Value)} {v : Value} (hp : PsRel m ps ps') (h : dBuild P t ps = some v) :
    ∃ v', (Instr.build t ps'.toArray).run P w = .ok v' w ∧ VRel m v v' := by
  unfold dBuild at h
  try simp only [pund_eq] at h
  split at h
  · rename_i z fields hz hu
    split at h
    · rename_i pl hpl
      cases hf : dFill (fun x => pl[x]?) z.cells.toList ps with
      | none => simp [hf] at h
      | some cs =>
        rw [hf] at h; cases h
        obtain ⟨cs', hfill, hrel⟩ := dFill_ok (cells' := z.cells) (fun x => pl[x]?) hp (flat_rel (zeroOf_flat hz)).cells hf
        refine ⟨.agg cs', ?_, .agg (by simpa using hrel)⟩
        have hm : (fields.mapM fun f => Prod.mk f.offset <$> sizeOf f.type).run P w = .ok pl.toArray w := by
          rw [Array.mapM_eq_mapM_toList]
          simp [run_places hpl]
        simp [Instr.build, run_zero w hz, run_und w hu, hm, hfill]
    · cases h
  · rename_i z len elem hz hu
    split at h
    · rename_i n hn
      cases hf : dFill (fun i => some (i * n, n)) z.cells.toList ps with
      | none => simp [hf] at h
      | some cs =>
        rw [hf] at h; cases h
        obtain ⟨cs', hfill, hrel⟩ := dFill_ok (cells' := z.cells) (fun i => some (i * n, n)) hp (flat_rel (zeroOf_flat hz)).cells hf
        refine ⟨.agg cs', ?_, .agg (by simpa using hrel)⟩
        simp [Instr.build, run_zero w hz, run_und w hu, run_size w hn, hfill]
    · cases h
  · cases h

theorem zeroRow_eq (z : Array Value) (n : Nat) : ((Array.range n).map (fun i => z[i % z.size]!)).toList = zeroRow z.toList n := by
  simp only [zeroRow, Array.toList_map, Array.toList_range]
  apply List.map_congr_left
  intro i _
  simp [getElem!_def]
  cases h : z[i % z.size]? <;> simp

theorem zeroRow_rel {z : List Value} (hz : VsRel m z z) (n : Nat) (h : n ≠ 0 → z ≠ []) : VsRel m (zeroRow z n) (zeroRow z n) := by
  unfold zeroRow
  have hall : ∀ i, n ≠ 0 → VRel m ((z[i % z.length]?).getD default) ((z[i % z.length]?).getD default) := by
    intro i hn
    have hpos : 0 < z.length := List.length_pos_iff.2 (h hn)
    have hlt := Nat.mod_lt i hpos
    rw [List.getElem?_eq_getElem hlt]
    obtain ⟨v', h1, h2⟩ := hz.get (List.getElem?_eq_getElem hlt)
    rw [List.getElem?_eq_getElem hlt] at h1
    cases h1
    exact h2
  have hind : ∀ l : List Nat, n ≠ 0 → VsRel m (l.map fun i => (z[i % z.length]?).getD default) (l.map fun i => (z[i % z.length]?).getD default) := by
    intro l hn
    induction l with
    | nil => exact .nil
    | cons i l ih => exact .cons (hall i hn) ih
  by_cases hn : n = 0
  · subst hn; exact .nil
  · exact hind _ hn

theorem dBuildSlice_ok (hR : Rel P base m M w) {t : TypeId} {len : Nat} {ps ps' : List (Nat × Value)} {v : Value} {M' : Mem} (hp : PsRel m ps ps')
    (h : dBuildSlice P t len ps M = some (v, M')) : VOK P base m M w (Instr.buildSlice t len ps'.toArray) v M' := by
  unfold dBuildSlice at h
  try simp only [pund_eq] at h
  split at h
  · rename_i elem hu
    split at h
    · rename_i n z hn hz
      simp only [cond_eq_ite, Bool.and_eq_true, Nat.beq_eq, Nat.ble_eq] at h
      split at h
      · rename_i hcond
        split at h
        · rename_i cs hf
          split at h
          · rename_i b M1 hnew
            cases h
            have hzr := (flat_rel (m := m) (zeroOf_flat hz)).cells
            have hzz : VsRel m (zeroRow z.cells.toList (len * n)) (zeroRow z.cells.toList (len * n)) := zeroRow_rel hzr _ fun hne he => by
              rw [he] at hcond
              simp only [List.length_nil] at hcond
              apply hne; rw [← hcond.2]; simp
            by_cases h0 : len * n = 0
            · obtain ⟨cs', hfill, hrel⟩ := dFill_ok (cells' := #[]) (fun i => some (i * n, n)) hp (by rw [h0] at hzz; simpa [zeroRow] using hzz) (by rw [h0] at hf; simpa [zeroRow] using hf)
              obtain ⟨L, h1, h2, h3, h5, h6⟩ := new_exact hR elem (fun _ h => (Nat.succ.inj h)) hrel hnew
              refine ⟨_, _, .slice (some ⟨w.heap.size, 0, none⟩) len len, ?_, ?_, h5, h6⟩
              · have hr0 : Array.range 0 = #[] := rfl
                simp [Instr.buildSlice, run_und w hu, run_size w hn, h0, hr0, hfill, newRow]
              · have := VRel.slice (m := m.set b L) (o := 0) (l := len) (c := len) (Inj.set_same m b L)
                rw [h1, h2, h3] at this; exact this
            · obtain ⟨cs', hfill, hrel⟩ := dFill_ok (cells' := (Array.range (len * n)).map (fun i => z.cells[i % z.cells.size]!)) (fun i => some (i * n, n)) hp (by rw [zeroRow_eq]; exact hzz) hf
              obtain ⟨L, h1, h2, h3, h5, h6⟩ := new_exact hR elem (fun _ h => (Nat.succ.inj h)) hrel hnew
              refine ⟨_, _, .slice (some ⟨w.heap.size, 0, none⟩) len len, ?_, ?_, h5, h6⟩
              · have hle : ¬ (len * n > 2 ^ 24) := by omega
                simp [Instr.buildSlice, run_und w hu, run_size w hn, h0, hle, hfill, newRow, run_zero w hz]
              · have := VRel.slice (m := m.set b L) (o := 0) (l := len) (c := len) (Inj.set_same m b L)
                rw [h1, h2, h3] at this; exact this
          · cases h
        · cases h
      · cases h
    · cases h
  · cases h

theorem wrap_small {n : Nat} (h : n ≤ 1073741824) : IntKind.i64.wrap (n : Int) = n := IntWalk.i64_in _ (by omega)

theorem dMakeSlice_ok (hR : Rel P base m M w) {t : TypeId} {l l' c c' v : Value} {M' : Mem} (hl : VRel m l l') (hc : VRel m c c')
    (h : dMakeSlice P t l c M = some (v, M')) : VOK P base m M w (Instr.makeSlice t l' c') v M' := by
  unfold dMakeSlice at h
  try simp only [pinfo_eq, pund_eq] at h
  split at h
  · rename_i elem l0 c0 hu
    cases hl; cases hc
    split at h
    · rename_i i z hi hz
      split at h
      · rename_i l1 c1
        simp only [cond_eq_ite, Bool.and_eq_true, Nat.beq_eq, Nat.ble_eq] at h
        split at h
        · rename_i hcond
          obtain ⟨⟨⟨h1, h2⟩, h3⟩, h4⟩ := hcond
          split at h
          · rename_i b M1 hnew
            cases h
            have hzr := (flat_rel (m := m) (zeroOf_flat hz)).cells
            have hzz : VsRel m (zeroRow z.cells.toList (c1 * i.size)) (zeroRow z.cells.toList (c1 * i.size)) := zeroRow_rel hzr _ fun hne he => by
              rw [he] at h4
              simp only [List.length_nil] at h4
              apply hne; rw [← h4]; simp
            have hsz : szOf P elem = some i.size := by simp [szOf, pinfo_eq, hi]
            have hwl := wrap_small (Nat.le_trans h1 h3)
            have hwc := wrap_small h3
            have he0 : (i.bytes : Int) * (c1 : Int) = ((i.bytes * c1 : Nat) : Int) := by rw [Int.natCast_mul]
            have hb : (i.bytes : Int) * (c1 : Int) ≤ 1073741824 := by rw [he0]; omega
            have hcond : ((decide ((c1 : Int) < 0) || decide ((i.bytes : Int) * (c1 : Int) > 2 ^ 48)) || decide ((l1 : Int) < 0) || decide ((l1 : Int) > (c1 : Int))) = false := by
              rw [decide_eq_false (by omega), decide_eq_false (by omega), decide_eq_false (by omega), decide_eq_false (by omega)]; rfl
            obtain ⟨L, e1, e2, e3, h5, h6⟩ := new_exact hR elem (fun _ h => (Nat.succ.inj h)) hzz hnew
            refine ⟨_, _, .slice (some ⟨w.heap.size, 0, none⟩) l1 c1, ?_, ?_, h5, h6⟩
            · have he : (Array.map (fun i => z.cells[i % z.cells.size]!) (Array.range (c1 * i.size))) = (zeroRow z.cells.toList (c1 * i.size)).toArray := by
                rw [← zeroRow_eq]
              simp only [Instr.makeSlice, Sem.run_bind, run_und w hu, Result.andThen_ok, asInt, asIntOf, Sem.run_pure, run_info w hi, Int.ofNat_eq_natCast, hwl, hwc, hcond,
                Bool.false_eq_true, if_false, run_askRoom, run_size w hsz, Int.toNat_natCast]
              by_cases h0 : c1 * i.size = 0
              · have hr0 : Array.range 0 = #[] := rfl
                simp [h0, newRow, zeroRow, hr0]
              · rw [if_neg h0]
                simp only [Sem.run_bind, run_zero w hz, Result.andThen_ok, Sem.run_pure, newRow, run_newObj]
                rw [he]
            · have := VRel.slice (m := m.set b L) (o := 0) (l := l1) (c := c1) (Inj.set_same m b L)
              rw [e1, e2, e3] at this; exact this
          · cases h
        · cases h
      · cases h
    · cases h
  · cases h
end
end
end Go.Ab
