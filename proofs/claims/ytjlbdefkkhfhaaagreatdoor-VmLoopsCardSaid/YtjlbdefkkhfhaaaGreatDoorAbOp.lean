/- Each operation of the abstract machine is what the model's operation does. First part: values, loads, stores, blocks made. -/
import Derived.Test.YtjlbdefkkhfhaaaGreatDoorAbMem
namespace Go.Ab
open Go
noncomputable section

section runs
variable {P : Program} (w : World)
theorem run_und {t : TypeId} {d : TypeDesc} (h : P.underlying t = some d) : (underlying t).run P w = .ok d w := by simp [underlying, h]
theorem run_info {t : TypeId} {i : TypeInfo} (h : P.info? t = some i) : (typeInfo t).run P w = .ok i w := by simp [typeInfo, h]
theorem szOf_info {t : TypeId} {n : Nat} (h : szOf P t = some n) : ∃ i, P.info? t = some i ∧ i.size = n := by
  unfold szOf at h
  try simp only [pinfo_eq] at h
  cases hi : P.info? t with
  | none => simp [hi] at h
  | some i => rw [hi] at h; exact ⟨i, rfl, by simpa using h⟩
theorem run_size {t : TypeId} {n : Nat} (h : szOf P t = some n) : (sizeOf t).run P w = .ok n w := by
  obtain ⟨i, hi, rfl⟩ := szOf_info h
  simp [sizeOf, run_info w hi]
theorem zeroOf_spec {t : TypeId} {z : Value} (h : zeroOf P t = some z) : ∃ i, P.info? t = some i ∧ i.zero = some z ∧ flat z = true := by
  unfold zeroOf at h
  try simp only [pinfo_eq] at h
  split at h
  · rename_i i hi
    split at h
    · rename_i z' hz
      simp only [cond_eq_ite] at h
      split at h
      · cases h; exact ⟨i, hi, hz, by assumption⟩
      · cases h
    · cases h
  · cases h
theorem run_zero {t : TypeId} {z : Value} (h : zeroOf P t = some z) : (zeroValue t).run P w = .ok z w := by
  obtain ⟨i, hi, hz, _⟩ := zeroOf_spec h
  simp [zeroValue, run_info w hi, hz]
theorem zeroOf_flat {t : TypeId} {z : Value} (h : zeroOf P t = some z) : flat z = true := by
  obtain ⟨_, _, _, hf⟩ := zeroOf_spec h; exact hf
theorem run_isAgg {t : TypeId} {d : TypeDesc} (h : P.underlying t = some d) : (isAgg t).run P w = .ok (aggD d) w := by
  simp only [isAgg, Sem.run_bind, run_und w h, Result.andThen_ok]
  cases d <;> rfl
end runs

section
variable {P : Program} {base : Nat} {m : Inj} {M : Mem} {w : World}

def VOK (P : Program) (base : Nat) (m : Inj) (M : Mem) (w : World) (s : Sem Value) (v : Value) (M' : Mem) : Prop :=
  ∃ m' w' v', s.run P w = .ok v' w' ∧ VRel m' v v' ∧ Rel P base m' M' w' ∧ Fr base m m' M M' w w'
def UOK (P : Program) (base : Nat) (m : Inj) (M : Mem) (w : World) (s : Sem Unit) (M' : Mem) : Prop :=
  ∃ m' w', s.run P w = .ok () w' ∧ Rel P base m' M' w' ∧ Fr base m m' M M' w w'

theorem VOK.same (hR : Rel P base m M w) {s : Sem Value} {v v' : Value} (h : s.run P w = .ok v' w) (hv : VRel m v v') : VOK P base m M w s v M :=
  ⟨m, w, v', h, hv, hR, Fr.refl _ _ _ _⟩

theorem VRel.ptr_inv {b o : Nat} {v' : Value} (h : VRel m (.pointer (some ⟨b, o, none⟩)) v') :
    ∃ L, m b = some L ∧ v' = .pointer (some ⟨L.block, L.off + o, none⟩) := by
  cases h with
  | ptr h => exact ⟨_, h, rfl⟩

theorem dLoad_ok (hR : Rel P base m M w) {t : TypeId} {v v' r : Value} (hv : VRel m v v') (h : dLoad P t v M = some r) :
    ∃ r', (Instr.loadAt t v').run P w = .ok r' w ∧ VRel m r r' := by
  unfold dLoad at h
  try simp only [pund_eq] at h
  split at h
  · rename_i b o
    obtain ⟨L, hL, rfl⟩ := hv.ptr_inv
    split at h
    · rename_i d hd
      split at h
      · rename_i hagg
        split at h
        · rename_i n hn
          cases hrd : M.read b o n with
          | none => simp [hrd] at h
          | some cs =>
            rw [hrd] at h; cases h
            obtain ⟨cs', hc, hlen, hcell⟩ := read_spec hR hL hrd
            refine ⟨.agg cs'.toArray, ?_, .agg (by simpa using hc)⟩
            simp [Instr.loadAt, Instr.sureAddr, loadVar, run_isAgg w hd, hagg, run_size w hn, loadCells_run hlen hcell]
        · cases h
      · rename_i hagg
        split at h
        · rename_i x hrd
          cases h
          obtain ⟨cs', hc, hlen, hcell⟩ := read_spec hR hL hrd
          cases hc with
          | cons h1 h2 =>
            rename_i v1 l1
            have hc0 := hcell 0 v1 rfl
            refine ⟨v1, ?_, h1⟩
            simp only [Nat.add_zero] at hc0
            simp [Instr.loadAt, Instr.sureAddr, loadVar, run_isAgg w hd, hagg, hc0]
        · cases h
    · cases h
  · cases h

theorem write_ok (hR : Rel P base m M w) {b o : Nat} {L : Loc} {vs vs' : List Value} {M' : Mem} (hb : m b = some L) (hv : VsRel m vs vs')
    (h : M.write b o vs = some M') :
    ∃ w', (storeCells ⟨L.block, L.off + o, none⟩ vs').run P w = .ok () w' ∧ Rel P base m M' w' ∧ Fr base m m M M' w w' := by
  unfold Mem.write at h
  split at h
  · rename_i c es lo hg
    simp only [cond_eq_ite, Bool.and_eq_true, Nat.ble_eq] at h
    split at h
    · rename_i hc
      cases h
      have hown : M.own b := ⟨_, hg, rfl⟩
      obtain ⟨cc, e, fz, hh, hseg, hlo, _, hrest⟩ := hR.obj b L _ hb hg
      obtain ⟨hbase, hsz, hfz⟩ := hrest rfl
      have hfz := hfz rfl
      have hB := lt_of_heap hh
      have hlen := hv.length
      have hn : L.off + c.length ≤ cc.size := by omega
      have hrun := storeCells_run (P := P) vs' 0 w cc L.block (L.off + o) e fz hh (by omega) (by rw [hv.oneCell]; exact hc.2) hfz
      rw [Nat.add_zero] at hrun
      have hs : (rowSet w L.block (splice cc.toList (L.off + o) vs').toArray e fz).heap.size = w.heap.size := setRow_size
      have hw : ∀ B, B ≠ L.block → (rowSet w L.block (splice cc.toList (L.off + o) vs').toArray e fz).heap[B]? = w.heap[B]? := fun B hne => setRow_heap_ne hne
      have hsl : (splice c o vs).length = c.length := splice_length _ _ _ hc.1
      have hccl : (splice cc.toList (L.off + o) vs').length = cc.size := by
        have : cc.toList.length = cc.size := rfl
        rw [splice_length _ _ _ (by omega), this]
      refine ⟨_, hrun, hR.put hb hown hs hw ?_, Fr.put (w' := rowSet w L.block (splice cc.toList (L.off + o) vs').toArray e fz) hR hb hown rfl rfl rfl hs hw _⟩
      refine ⟨(splice cc.toList (L.off + o) vs').toArray, e, fz, setRow_heap hB, ?_, ⟨fun hl => ⟨(hlo.1 hl).1, fun t ht => ⟨((hlo.1 hl).2 t ht).1, ((hlo.1 hl).2 t ht).2.1, by rw [hsl, List.size_toArray, hccl]; exact ((hlo.1 hl).2 t ht).2.2⟩⟩, hlo.2⟩, fun hx => by simp at hx, fun _ => ⟨hbase, ?_, fun _ i hi => ?_⟩⟩
      · rw [hsl, seg_splice (by omega) hn]
        exact hseg.splice hv o
      · rw [hsl, List.size_toArray, hccl]; exact hsz
      · rw [List.size_toArray, hccl] at hi; exact hfz i hi
    · cases h
  · cases h

theorem dStore_ok (hR : Rel P base m M w) {t : TypeId} {v v' x x' : Value} {M' : Mem} (hv : VRel m v v') (hx : VRel m x x') (h : dStore P t v x M = some M') :
    UOK P base m M w (Instr.storeAt t v' x') M' := by
  unfold dStore at h
  try simp only [pinfo_eq, pund_eq, pfn_eq] at h
  split at h
  · rename_i b o
    obtain ⟨L, hL, rfl⟩ := hv.ptr_inv
    split at h
    · rename_i n hn
      simp only [cond_eq_ite, Nat.beq_eq] at h
      split at h
      · rename_i hlen
        have hxc := hx.cells
        obtain ⟨w', hrun, hR', hF⟩ := write_ok hR hL hxc h
        refine ⟨m, w', ?_, hR', hF⟩
        have hsz : x'.cells.size = n := by
          have := hxc.length
          rw [Array.length_toList] at this
          omega
        simp [Instr.storeAt, Instr.sureAddr, storeVar, run_size w hn, hsz, hrun]
      · cases h
    · cases h
  · cases h

theorem new_cells (hR : Rel P base m M w) {cs cs' : List Value} {es : Nat} {b : Nat} {M' : Mem} {loose : Bool} (e : TypeId) (rest : List Value)
    (hc : VsRel m cs cs') (h : dNew cs es loose M = some (b, M')) (hx : ∃ extra, (loose = false → extra = 0) ∧ rest.length = extra * (es % 65536)) (hty : loose = false → ∀ t, es = t + 1 → e = t) (hty' : loose = true → ∀ t, es / 65536 = t + 1 → e = t) :
    ∃ L : Loc, L.block = w.heap.size ∧ L.off = 0 ∧ rest.length = L.extra * (es % 65536) ∧ (loose = false → L.extra = 0) ∧
      Rel P base (m.set b L) M' { w with heap := w.heap.push (.cells (cs' ++ rest).toArray e) } ∧
      Fr base m (m.set b L) M M' w { w with heap := w.heap.push (.cells (cs' ++ rest).toArray e) } := by
  obtain ⟨extra, hx0, hxl⟩ := hx
  have hw : ∀ B, B < w.heap.size → (w.heap.push (Obj.cells (cs' ++ rest).toArray e))[B]? = w.heap[B]? := by
    intro B hB; rw [Array.getElem?_push, if_neg (by omega)]
  have hnone : m b = none := by
    obtain ⟨hb, _⟩ := Mem.new_spec h
    cases hmb : m b with
    | none => rfl
    | some L' => have := hR.fresh b L' hmb; omega
  let L : Loc := ⟨w.heap.size, 0, extra⟩
  have hlen := hc.length
  obtain ⟨_, hR'⟩ := Rel.made (w' := { w with heap := w.heap.push (.cells (cs' ++ rest).toArray e) }) (L := L) hR h (Nat.le_refl _) (by simp [L]) (by simp) hw
    ⟨(cs' ++ rest).toArray, e, (0, 0), by simp [L], by
        have : seg (cs' ++ rest).toArray L.off cs.length = cs' := by simp [seg, L, ← hlen]
        rw [this]; exact hc.mono (Inj.le_set L hnone),
      ⟨fun hl => ⟨hx0 hl, fun t ht => ⟨hty hl t ht, rfl, by
        rw [hx0 hl, Nat.zero_mul] at hxl
        have : rest = [] := List.eq_nil_of_length_eq_zero hxl
        simp [this, hlen]⟩⟩, hty'⟩, fun hf => by simp at hf, fun _ => ⟨hR.base, by simp [L]; omega, fun _ i _ => by simp⟩⟩
  exact ⟨L, rfl, rfl, hxl, hx0, hR', Fr.made hR h hnone rfl rfl rfl (Nat.le_refl _) (by simp) hw⟩

theorem new_exact (hR : Rel P base m M w) {cs cs' : List Value} {es : Nat} {b : Nat} {M' : Mem} (e : TypeId) (hty : ∀ t, es = t + 1 → e = t) (hc : VsRel m cs cs')
    (h : dNew cs es false M = some (b, M')) :
    ∃ L : Loc, L.block = w.heap.size ∧ L.off = 0 ∧ L.extra = 0 ∧
      Rel P base (m.set b L) M' { w with heap := w.heap.push (.cells cs'.toArray e) } ∧
      Fr base m (m.set b L) M M' w { w with heap := w.heap.push (.cells cs'.toArray e) } := by
  obtain ⟨L, h1, h2, h3, h4, h5, h6⟩ := new_cells hR e [] hc h ⟨0, fun _ => rfl, by simp⟩ (fun _ => hty) (fun h => by cases h)
  simp only [List.append_nil] at h5 h6
  exact ⟨L, h1, h2, h4 rfl, h5, h6⟩

theorem dAlloc_ok (hR : Rel P base m M w) {t : TypeId} {v : Value} {M' : Mem} (h : dAlloc P t M = some (v, M')) :
    VOK P base m M w (Instr.alloc t true (.tuple #[])) v M' := by
  unfold dAlloc at h
  try simp only [pinfo_eq, pund_eq, pfn_eq] at h
  split at h
  · rename_i z hz
    split at h
    · rename_i b M1 hn
      cases h
      obtain ⟨L, h1, h2, _, h5, h6⟩ := new_exact hR t (fun _ h => (Nat.succ.inj h)) (flat_rel (zeroOf_flat hz)).cells hn
      refine ⟨_, _, .pointer (some ⟨w.heap.size, 0, none⟩), ?_, ?_, h5, h6⟩
      · simp [Instr.alloc, run_zero w hz, newVar, newRow]
      · have := VRel.ptr (m := m.set b L) (o := 0) (Inj.set_same m b L)
        rw [h1, h2] at this; exact this
    · cases h
  · cases h

theorem dBox_ok (hR : Rel P base m M w) (t : TypeId) {x x' v : Value} {M' : Mem} (hx : VRel m x x') (h : dBox t x M = some (v, M')) :
    VOK P base m M w (Instr.box t x') v M' := by
  unfold dBox at h
  try simp only [pinfo_eq, pund_eq, pfn_eq] at h
  split at h
  · rename_i b M1 hn
    cases h
    obtain ⟨L, h1, h2, _, h5, h6⟩ := new_exact hR t (fun _ h => (Nat.succ.inj h)) hx.cells hn
    refine ⟨_, _, .pointer (some ⟨w.heap.size, 0, none⟩), ?_, ?_, h5, h6⟩
    · simp [Instr.box, newVar, newRow]
    · have := VRel.ptr (m := m.set b L) (o := 0) (Inj.set_same m b L)
      rw [h1, h2] at this; exact this
  · cases h
end
end
end Go.Ab
