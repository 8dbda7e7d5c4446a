/- Each operation of the abstract machine is what the model's operation does. Fifth part: append and copy. -/
import Derived.Test.YtjlbdefkkhfhaaaGreatDoorAbOp4
namespace Go.Ab
open Go
noncomputable section

theorem growBy_le (n : Nat) : ∀ (r c : Nat), Builtin.growBy n r c ≤ max c (n + (n + 768) / 4)
  | 0, c => by simp only [Builtin.growBy]; omega
  | r + 1, c => by
    simp only [Builtin.growBy]
    split
    · omega
    · have := growBy_le n r (c + (c + 768) / 4)
      omega
theorem nextslicecap_le {need cap : Nat} (h : cap < need) : Builtin.nextslicecap need cap ≤ 2 * need + 192 := by
  unfold Builtin.nextslicecap
  split
  · omega
  · split
    · omega
    · have := growBy_le need 4 cap
      omega

section
variable {P : Program} {base : Nat} {m : Inj} {M : Mem} {w : World}

theorem read_seg (hR : Rel P base m M w) {b o n : Nat} {L : Loc} {cs : List Value} (hb : m b = some L) (h : M.read b o n = some cs) :
    ∃ cc e fz, w.heap[L.block]? = some (.cells cc e fz) ∧ VsRel m cs (seg cc (L.off + o) n) ∧ (seg cc (L.off + o) n).length = n ∧ cs.length = n := by
  rw [Mem.read_eq] at h
  split at h
  · rename_i c es lo fz ro hg
    simp only [cond_eq_ite, Nat.ble_eq] at h
    split at h
    · rename_i hle
      cases h
      obtain ⟨cc, e, f, hh, hv, _⟩ := hR.obj b L _ hb hg
      have hl := hv.length
      have e1 : ((seg cc L.off c.length).drop o).take n = seg cc (L.off + o) n := by
        unfold seg
        rw [List.drop_take, List.take_take, List.drop_drop, Nat.min_eq_left (by omega)]
      have h2 := (hv.drop o).take n
      rw [e1] at h2
      have hl2 := h2.length
      have hl3 : ((c.drop o).take n).length = n := by simp [List.length_take, List.length_drop]; omega
      exact ⟨cc, e, f, hh, h2, by omega, hl3⟩
    · cases h
  · cases h

theorem cell_heap {w w' : World} (h : w'.heap = w.heap) (a : Addr) : w'.cell? a = w.cell? a := by simp [World.cell?, h]

theorem dFirst_ok (hR : Rel P base m M w) {size n : Nat} {x x' : Value} {cs : List Value} (hx : VRel m x x') (h : dFirst size n x M = some cs) :
    ∃ cs', (∀ w' : World, w'.heap = w.heap → (Builtin.firstCells size n x').run P w' = .ok cs'.toArray w') ∧ VsRel m cs cs' := by
  unfold dFirst at h
  try simp only [pinfo_eq, pund_eq, pfn_eq] at h
  split at h
  · rename_i b o l c
    cases hx with
    | slice hL =>
      rename_i L
      obtain ⟨cs', h1, h2, h3⟩ := read_spec hR hL h
      exact ⟨cs', fun w' hw => by simp [Builtin.firstCells, loadCells_run h2 fun j v hj => (cell_heap hw _).trans (h3 j v hj)], h1⟩
  · simp only [cond_eq_ite] at h
    split at h
    · cases h; cases hx
      exact ⟨[], fun _ _ => by simp [Builtin.firstCells], .nil⟩
    · cases h
  · rename_i s
    simp only [cond_eq_ite] at h
    split at h
    case isFalse => cases h
    cases h; cases hx
    refine ⟨((s.extract 0 n).data.map fun b => Value.int .u8 b.toNat).toList, fun _ _ => by rw [Array.toArray_toList]; rfl, ?_⟩
    rw [Array.toList_map]
    generalize (s.extract 0 n).data.toList = l
    induction l with
    | nil => exact .nil
    | cons b l ih => exact .cons (.int _ _) ih
  · cases h

theorem lenOf_ok {x x' : Value} {n : Nat} (hx : VRel m x x') (h : lenOf x = some n) : (Builtin.lenOf x').run P w = .ok n w := by
  unfold lenOf at h
  try simp only [pinfo_eq, pund_eq, pfn_eq] at h
  split at h
  · cases h; cases hx <;> rfl
  · cases h; cases hx; rfl
  · cases h

theorem zeroCells_length (z : Array Value) (n : Nat) : (Builtin.zeroCells z n).size = n * z.size := by simp [Builtin.zeroCells]

/-- append, where a new array is made -/
theorem append_grow {sType xType elem : TypeId} {ts : Array TypeId} {ty : TypeId} {d : TypeDesc} {x' : Value} {n : Nat}
    (h0 : ts[0]? = some sType) (h1 : ts[1]? = some xType) (hu : P.underlying sType = some (.slice elem)) (hux : P.underlying xType = some d) (hnint : ∀ k, d = .int k → False)
    (hln : ∀ w' : World, (Builtin.lenOf x').run P w' = .ok n w')
    {i : TypeInfo} {z : Value} (hi : P.info? elem = some i) (hz : zeroOf P elem = some z) (hzl : z.cells.toList.length = i.size)
    {sCap sLen : Nat} {a : Option Addr} {old new : List Value}
    (hb1 : (sLen + n) * i.bytes ≤ 1073741824) (hb2 : sLen + n ≤ 1073741824) (h3 : sCap < sLen + n)
    (hold : ∀ w' : World, w'.heap = w.heap → (Builtin.firstCells i.size sLen (.slice a sLen sCap)).run P w' = .ok old.toArray w')
    (hnew : ∀ w' : World, w'.heap = w.heap → (Builtin.firstCells i.size n x').run P w' = .ok new.toArray w') :
    ∃ (extra : Nat) (rest : List Value), rest.length = extra * i.size ∧
      (Builtin.append_ ts ty #[.slice a sLen sCap, x']).run P w =
      .ok (.slice (some ⟨w.heap.size, 0, none⟩) (sLen + n) (sLen + n + extra))
        { w with drawn := w.drawn + 1, heap := w.heap.push (.cells ((old ++ new) ++ rest).toArray elem) } := by
  have hsz : szOf P elem = some i.size := by simp [szOf, pinfo_eq, hi]
  have hb : i.bytes ≤ 1073741824 := by
    have : 1 * i.bytes ≤ (sLen + n) * i.bytes := Nat.mul_le_mul_right _ (by omega)
    omega
  have hcap : Builtin.nextslicecap (sLen + n) sCap * i.bytes ≤ 2 ^ 48 := by
    have e1 := Nat.mul_le_mul_right i.bytes (nextslicecap_le h3)
    have e2 : (2 * (sLen + n) + 192) * i.bytes = 2 * ((sLen + n) * i.bytes) + 192 * i.bytes := by rw [Nat.add_mul, Nat.mul_assoc]
    omega
  have hmax : IntKind.i64.max = 9223372036854775807 := by decide
  have hc1 : ¬ (((sLen + n : Nat) : Int) > IntKind.i64.max) := by rw [hmax]; omega
  have hc2 : ¬ (Builtin.nextslicecap (sLen + n) sCap * i.bytes > 2 ^ 48) := by omega
  have hgt : ¬ (sLen + n ≤ sCap) := by omega
  let extra := w.tape w.drawn (.appendCap (sLen + n) sCap elem) % (2 ^ 63 - (sLen + n))
  refine ⟨extra, (Builtin.zeroCells z.cells extra).toList, ?_, ?_⟩
  · rw [Array.length_toList, zeroCells_length, ← Array.length_toList, hzl]
  · have hw : ({ w with drawn := w.drawn + 1 } : World).heap = w.heap := rfl
    have hx : Question.cut (.appendCap (sLen + n) sCap elem) (w.tape w.drawn (.appendCap (sLen + n) sCap elem)) = sLen + n + extra := rfl
    have he : old.toArray ++ new.toArray ++ Builtin.zeroCells z.cells extra = ((old ++ new) ++ (Builtin.zeroCells z.cells extra).toList).toArray := by
      apply Array.ext'; simp
    have hg0 : (#[Value.slice a sLen sCap, x'] : Array Value)[0]? = some (.slice a sLen sCap) := rfl
    have hg1 : (#[Value.slice a sLen sCap, x'] : Array Value)[1]? = some x' := rfl
    unfold Builtin.append_
    simp only [h0, h1, hg0, hg1, Sem.run_bind, run_und _ hu, run_und _ hux, Result.andThen_ok, run_size _ hsz, Sem.run_pure]
    simp only [Bool.false_eq_true, if_false, hln, Result.andThen_ok, hgt, Sem.run_bind, run_info _ hi, hc1, hc2, false_and, run_choose, Question.forced, run_askRoom, hold _ hw, hnew _ hw,
      Bool.not_false, if_true, run_zero _ hz, newRow, run_newObj, Sem.run_pure, hx, Nat.add_sub_cancel_left, he]

theorem new_cells' (hR : Rel P base m M w) {cs cs' : List Value} {es : Nat} {b : Nat} {M' : Mem} (e : TypeId) (rest : List Value) (extra : Nat)
    (hc : VsRel m cs cs') (h : dNew cs es true M = some (b, M')) (hx : rest.length = extra * (es % 65536)) (hty : ∀ t, es / 65536 = t + 1 → e = t) :
    ∃ L : Loc, L.block = w.heap.size ∧ L.off = 0 ∧ L.extra = extra ∧ True ∧
      Rel P base (m.set b L) M' { w with heap := w.heap.push (.cells (cs' ++ rest).toArray e) } ∧
      Fr base m (m.set b L) M M' w { w with heap := w.heap.push (.cells (cs' ++ rest).toArray e) } := by
  have hw : ∀ B, B < w.heap.size → (w.heap.push (Obj.cells (cs' ++ rest).toArray e))[B]? = w.heap[B]? := by
    intro B hB; rw [Array.getElem?_push, if_neg (by omega)]
  have hnone : m b = none := by
    obtain ⟨hb, _⟩ := Mem.new_spec h
    cases hmb : m b with
    | none => rfl
    | some L' => have := hR.fresh b L' hmb; omega
  let L : Loc := ⟨w.heap.size, 0, extra⟩
  have hlen := hc.length
  obtain ⟨_, hR'⟩ := Rel.made (w' := { w with heap := w.heap.push (.cells (cs' ++ rest).toArray e) }) (L := L) hR h (Nat.le_refl _) (by simp [L]) (by simp) hw
    ⟨(cs' ++ rest).toArray, e, (0, 0), by simp [L], by
        have : seg (cs' ++ rest).toArray L.off cs.length = cs' := by simp [seg, L, ← hlen]
        rw [this]; exact hc.mono (Inj.le_set L hnone),
      ⟨(fun hf => by simp at hf), fun _ => hty⟩, fun hf => by simp at hf, fun _ => ⟨hR.base, by simp [L]; omega, fun _ i _ => by simp⟩⟩
  exact ⟨L, rfl, rfl, rfl, trivial, hR', Fr.made hR h hnone rfl rfl rfl (Nat.le_refl _) (by simp) hw⟩

theorem first_length (hR : Rel P base m M w) {size n : Nat} {x x' : Value} {cs : List Value} (hx : VRel m x x') (hn : lenOf x = some n) (h : dFirst size n x M = some cs) :
    cs.length = n * size := by
  unfold dFirst at h
  try simp only [pinfo_eq, pund_eq, pfn_eq] at h
  split at h
  · rename_i b o l c
    cases hx with
    | slice hL =>
      obtain ⟨_, _, _, _, _, _, h3⟩ := read_seg hR hL h
      exact h3
  · simp only [cond_eq_ite, Nat.beq_eq] at h
    split at h
    · rename_i h0; cases h; subst h0; simp
    · cases h
  · rename_i s
    simp only [cond_eq_ite, Bool.and_eq_true, Nat.beq_eq, Nat.ble_eq] at h
    split at h
    · rename_i h0
      cases h
      rw [h0.1]
      have : (s.extract 0 n).size = n := by rw [ByteArray.size_extract]; omega
      rw [List.length_map, Array.length_toList, Nat.mul_one]
      exact this
    · cases h
  · cases h

theorem seg_end (c vs : List Value) (q k : Nat) (h : q + k + vs.length ≤ c.length) :
    ((splice c (q + k) vs).drop q).take (k + vs.length) = (c.drop q).take k ++ vs := by
  unfold splice
  rw [List.append_assoc, List.drop_append, List.length_take, Nat.min_eq_left (by omega), show q - (q + k) = 0 by omega, List.drop_zero, List.drop_take, show q + k - q = k by omega,
    ← List.append_assoc]
  have hl : ((c.drop q).take k ++ vs).length = k + vs.length := by simp [List.length_take, List.length_drop]; omega
  rw [← hl, List.take_left]

theorem dAppend_ok (hR : Rel P base m M w) {sType xType : TypeId} {ts : Array TypeId} {ty : TypeId} {s s' x x' v : Value} {M' : Mem}
    (h0 : ts[0]? = some sType) (h1 : ts[1]? = some xType) (hs : VRel m s s') (hx : VRel m x x') (h : dAppend P sType xType s x M = some (v, M')) :
    VOK P base m M w (Builtin.append_ ts ty #[s', x']) v M' := by
  unfold dAppend at h
  try simp only [pinfo_eq, pund_eq] at h
  split at h
  · rename_i elem d hu hux
    split at h
    · cases h
    · rename_i hnint
      split at h
      · rename_i i z base0 sLen sCap n hi hz hln
        have hsz : szOf P elem = some i.size := by simp [szOf, pinfo_eq, hi]
        have hlen := lenOf_ok (P := P) (w := w) hx hln
        split at h
        · rename_i new hnew
          obtain ⟨new', hrn', hvn⟩ := dFirst_ok hR hx hnew
          have hrn := hrn' w rfl
          have hnl := hvn.length
          simp only [cond_eq_ite, Nat.ble_eq] at h
          split at h
          · -- in place
            rename_i hle
            split at h
            · rename_i b o
              cases hs with
              | slice hL =>
                rename_i L
                cases hwr : M.write b (o + sLen * i.size) new with
                | none => simp [hwr] at h
                | some M1 =>
                  rw [hwr] at h; cases h
                  obtain ⟨w', hrun, hR', hF⟩ := write_ok hR hL hvn hwr
                  refine ⟨m, w', .slice (some ⟨L.block, L.off + o, none⟩) (sLen + n) (sCap + L.extra), ?_, .slice hL, hR', hF⟩
                  have hle' : sLen + n ≤ sCap + L.extra := by omega
                  rw [← Nat.add_assoc] at hrun
                  simp [Builtin.append_, h0, h1, run_und w hu, run_und w hux, run_size w hsz, hlen, hle', hrn, add_none, hrun]
            · cases hs
              simp only [Nat.beq_eq] at h
              split at h
              · rename_i hn0
                cases h
                refine ⟨m, w, .slice none (sLen + n) sCap, ?_, .nilSlice _ _, hR, Fr.refl _ _ _ _⟩
                simp [Builtin.append_, h0, h1, run_und w hu, run_und w hux, run_size w hsz, hlen, hle, hrn]
              · cases h
            · cases h
          · rename_i hgt
            split at h
            · rename_i old hold
              obtain ⟨old', hro', hvo⟩ := dFirst_ok hR hs hold
              simp only [Bool.and_eq_true, Nat.ble_eq, Nat.beq_eq] at h
              split at h
              · rename_i hc
                obtain ⟨⟨⟨⟨hc1, hc2⟩, hc3⟩, hc4⟩, hc5⟩ := hc
                rw [Nat.blt_eq] at hc5
                have hcm : (i.size + 65536 * (elem + 1)) % 65536 = i.size := by omega
                have hcd : (i.size + 65536 * (elem + 1)) / 65536 = elem + 1 := by omega
                have hvv := hvo.append hvn
                have hln' : ∀ w' : World, (Builtin.lenOf x').run P w' = .ok n w' := fun w' => lenOf_ok hx hln
                have hnint' : ∀ k, d = .int k → False := fun k e => hnint k e
                have hlo := hvo.length
                have hsz' : ∀ {c : Nat}, c < sLen + n → ∀ {a : Option Addr}, (∀ w' : World, w'.heap = w.heap → (Builtin.firstCells i.size sLen (.slice a sLen c)).run P w' = .ok old'.toArray w') →
                    ∃ (extra : Nat) (rest : List Value), rest.length = extra * i.size ∧
                      (Builtin.append_ ts ty #[.slice a sLen c, x']).run P w = .ok (.slice (some ⟨w.heap.size, 0, none⟩) (sLen + n) (sLen + n + extra))
                        { w with drawn := w.drawn + 1, heap := w.heap.push (.cells ((old' ++ new') ++ rest).toArray elem) } :=
                  fun {_} hc' {_} ha => append_grow h0 h1 hu hux hnint' hln' hi hz hc3 hc1 hc2 hc' ha hrn'
                have grown : ∀ {c : Nat} {a : Option Addr} {M1 : Mem} {b' : Nat} {M2 : Mem}, Rel P base m M1 w → Fr base m m M M1 w w → c < sLen + n →
                    (∀ w' : World, w'.heap = w.heap → (Builtin.firstCells i.size sLen (.slice a sLen c)).run P w' = .ok old'.toArray w') →
                    dNew (old ++ new) (i.size + 65536 * (elem + 1)) true M1 = some (b', M2) →
                    VOK P base m M w (Builtin.append_ ts ty #[.slice a sLen c, x']) (.slice (some ⟨b', 0, none⟩) (sLen + n) (sLen + n)) M2 := by
                  intro c a M1 b' M2 hR1 hF1 hc' ha hnw
                  obtain ⟨extra, rest, hrl, hrun⟩ := hsz' hc' ha
                  have hR2 : Rel P base m M1 { w with drawn := w.drawn + 1 } := hR1.heap rfl
                  obtain ⟨L, e1, e2, e3, _, h5, h6⟩ := new_cells' hR2 elem rest extra hvv hnw (by rw [hcm]; exact hrl) (fun t ht => by rw [hcd] at ht; exact Nat.succ.inj ht)
                  refine ⟨_, _, _, hrun, ?_, h5, hF1.trans ((Fr.heap (m := m) (M := M1) (w := w) (w' := { w with drawn := w.drawn + 1 }) rfl rfl rfl rfl).trans h6)⟩
                  have := VRel.slice (m := m.set b' L) (o := 0) (l := sLen + n) (c := sLen + n) (Inj.set_same m b' L)
                  rw [e1, e2, e3] at this; exact this
                split at h
                · rename_i b o
                  cases hs with
                  | slice hL =>
                    rename_i L
                    split at h
                    · rename_i M1 hog
                      split at h
                      · rename_i b' M2 hnw
                        cases h
                        unfold Mem.outgrow at hog
                        split at hog
                        · -- exact
                          rename_i c es fz ro hg
                          cases hog
                          obtain ⟨_, _, _, _, _, hlo0, _⟩ := hR.obj b L _ hL hg
                          have hex := (hlo0.1 rfl).1
                          rw [hex] at hro' ⊢
                          exact grown hR (Fr.refl _ _ _ _) (by omega) hro' hnw
                        · -- loose
                          rename_i c es hg
                          simp only [cond_eq_ite, Bool.and_eq_true, Nat.beq_eq] at hog
                          split at hog
                          · rename_i hcc
                            cases hog
                            have hown : M.own b := ⟨_, hg, rfl⟩
                            by_cases hin : sLen + n ≤ sCap + L.extra
                            · -- in place, under a new name
                              obtain ⟨cc, e, fz, hh, hseg, hsl, hol⟩ := read_seg hR hL (by simpa [dFirst] using hold)
                              obtain ⟨cc', e', fz', hh', hvc, hlo0, _, hrest⟩ := hR.obj b L _ hL hg
                              rw [hh] at hh'; cases hh'
                              obtain ⟨hbase, hroom, hfz⟩ := hrest rfl
                              have hfz := hfz rfl
                              have hB := lt_of_heap hh
                              -- what was read is what stands there
                              have hread : old' = seg cc (L.off + o) (sLen * i.size) := by
                                have hr1 := hro' w rfl
                                have hr2 : (Builtin.firstCells i.size sLen (.slice (some ⟨L.block, L.off + o, none⟩) sLen (sCap + L.extra))).run P w = .ok (seg cc (L.off + o) (sLen * i.size)).toArray w := by
                                  refine loadCells_run hsl fun j v hj => ?_
                                  rw [cell_of_heap hh]
                                  unfold seg at hj
                                  try simp only [pinfo_eq, pund_eq, pfn_eq] at hj
                                  rw [List.getElem?_take] at hj
                                  split at hj
                                  · rw [List.getElem?_drop, Array.getElem?_toList] at hj; exact hj
                                  · cases hj
                                rw [hr1] at hr2
                                have := (Result.ok.inj hr2).1
                                exact congrArg Array.toList this
                              have hnlen : new.length = n * i.size := first_length hR hx hln hnew
                              have hol' : old.length = sLen * i.size := hol
                              have hmul : (sLen + n) * i.size = sLen * i.size + n * i.size := Nat.add_mul _ _ _
                              have hmul2 : (sCap + L.extra) * i.size = sCap * i.size + L.extra * i.size := Nat.add_mul _ _ _
                              have hmul3 : (sLen + n) * i.size ≤ (sCap + L.extra) * i.size := Nat.mul_le_mul_right _ hin
                              have hroom' : L.off + o + (sLen + n) * i.size ≤ cc.size := by
                                rw [hcc.1, hcm] at hroom; omega
                              have hone' : new'.all oneCell = true := by
                                rw [hvn.oneCell]; rw [List.all_append, Bool.and_eq_true] at hc4; exact hc4.2
                              have hrun := storeCells_run (P := P) new' 0 w cc L.block (L.off + o + sLen * i.size) e fz hh (by omega) hone' hfz
                              rw [Nat.add_zero] at hrun
                              let cc2 := (splice cc.toList (L.off + o + sLen * i.size) new').toArray
                              let L' : Loc := ⟨L.block, L.off + o, sCap + L.extra - (sLen + n)⟩
                              have hcc2 : cc2.size = cc.size := by
                                have e0 : cc.toList.length = cc.size := rfl
                                rw [List.size_toArray, splice_length _ _ _ (by omega), e0]
                              have hw : ∀ B, B ≠ L.block → (rowSet w L.block cc2 e fz).heap[B]? = w.heap[B]? := fun B hne => setRow_heap_ne hne
                              have hsegnew : seg cc2 (L.off + o) (old ++ new).length = old' ++ new' := by
                                have e0 : cc.toList.length = cc.size := rfl
                                rw [List.length_append, hol', hnlen, hread]
                                have e5 : new'.length = n * i.size := by omega
                                have := seg_end cc.toList new' (L.off + o) (sLen * i.size) (by omega)
                                rw [e5] at this
                                exact this
                              have hnone : m b' = none := by
                                obtain ⟨hb', _⟩ := Mem.new_spec hnw
                                have hb'' : b' = M.next := hb'
                                cases hmb : m b' with
                                | none => rfl
                                | some L1 => have := hR.fresh b' L1 hmb; omega
                              obtain ⟨_, hR'⟩ := Rel.move (L' := L') (w' := rowSet w L.block cc2 e fz) hR hL hown hnw rfl setRow_size hw
                                ⟨cc2, e, fz, setRow_heap hB, by
                                  show VsRel _ _ (seg cc2 (L.off + o) (old ++ new).length)
                                  rw [hsegnew]; exact hvv.mono (Inj.le_set L' hnone),
                                  ⟨fun hf => by simp at hf, fun _ t ht => by rw [hcd] at ht; rw [hcc.1] at hlo0; exact (hlo0.2 rfl elem hcd).trans (Nat.succ.inj ht)⟩, fun hf => by simp at hf,
                                  fun _ => ⟨hbase, by
                                    show L.off + o + (old ++ new).length + (sCap + L.extra - (sLen + n)) * ((i.size + 65536 * (elem + 1)) % 65536) ≤ cc2.size
                                    rw [hcm, hcc2, List.length_append, hol', hnlen, Nat.sub_mul]
                                    rw [hcc.1, hcm] at hroom
                                    omega, fun _ j hj => hfz j (by rw [hcc2] at hj; exact hj)⟩⟩
                              refine ⟨_, _, .slice (some ⟨L.block, L.off + o, none⟩) (sLen + n) (sCap + L.extra), ?_, ?_, hR',
                                Fr.move hR hL hown hnone hnw rfl rfl rfl rfl setRow_size hw⟩
                              · simp [Builtin.append_, h0, h1, run_und w hu, run_und w hux, run_size w hsz, hlen, hin, hrn, add_none, hrun, cc2]
                              · have := VRel.slice (m := m.set b' L') (o := 0) (l := sLen + n) (c := sLen + n) (Inj.set_same m b' L')
                                simp only [L', Nat.add_zero] at this
                                rw [show sLen + n + (sCap + L.extra - (sLen + n)) = sCap + L.extra by omega] at this
                                exact this
                            · -- it grows
                              have hR1 : Rel P base m (M.put b .dead) w := hR.put hL hown rfl (fun _ _ => rfl) trivial
                              exact grown hR1 (Fr.put hR hL hown rfl rfl rfl rfl (fun _ _ => rfl) _) (by omega) hro' hnw
                          · cases hog
                        · cases hog
                      · cases h
                    · cases h
                · cases hs
                  split at h
                  · rename_i b' M2 hnw
                    cases h
                    exact grown hR (Fr.refl _ _ _ _) (by omega) hro' hnw
                  · cases h
                · cases h
              · cases h
            · cases h
        · cases h
      · cases h
  · cases h

theorem dCopy_ok (hR : Rel P base m M w) {dType : TypeId} {ts : Array TypeId} {ty : TypeId} {s s' x x' v : Value} {M' : Mem}
    (h0 : ts[0]? = some dType) (hs : VRel m s s') (hx : VRel m x x') (h : dCopy P dType s x M = some (v, M')) :
    VOK P base m M w (Builtin.copy_ ts ty #[s', x']) v M' := by
  unfold dCopy at h
  try simp only [pund_eq] at h
  split at h
  · rename_i elem base0 dLen dCap k hu hln
    have hlen := lenOf_ok (P := P) (w := w) hx hln
    split at h
    · rename_i size hsz
      try simp only at h
      split at h
      · rename_i cells hf
        obtain ⟨cells', hrn', hv⟩ := dFirst_ok hR hx hf
        have hrn := hrn' w rfl
        split at h
        · rename_i b o
          cases hs with
          | slice hL =>
            rename_i L
            cases hwr : M.write b o cells with
            | none => simp [hwr] at h
            | some M1 =>
              rw [hwr] at h; cases h
              obtain ⟨w', hrun, hR', hF⟩ := write_ok hR hL hv hwr
              refine ⟨m, w', .int .i64 (Nat.min k dLen : Nat), ?_, .int _ _, hR', hF⟩
              simp [Builtin.copy_, h0, run_und w hu, hlen, run_size w hsz, hrn, hrun, goInt]
        · cases h; cases hs
          refine ⟨m, w, .int .i64 (Nat.min k dLen : Nat), ?_, .int _ _, hR, Fr.refl _ _ _ _⟩
          simp [Builtin.copy_, h0, run_und w hu, hlen, run_size w hsz, hrn, goInt]
        · cases h
      · cases h
    · cases h
  · cases h
end
end
end Go.Ab
