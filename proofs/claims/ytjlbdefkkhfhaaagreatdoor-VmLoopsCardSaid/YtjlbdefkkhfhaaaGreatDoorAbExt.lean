/- Each operation of the abstract machine is what the model's operation does: unsafe pointers, texts over bytes, the atomic functions, maps.clone. -/
import Derived.Test.YtjlbdefkkhfhaaaGreatDoorAbOp5
import Derived.Laws.BytesString
import Derived.KernelRfl
namespace Go.Ab
open Go
noncomputable section

section
variable {P : Program} {base : Nat} {m : Inj} {M : Mem} {w : World}

theorem shape_of {B : Nat} {cc : Array Value} {e : TypeId} {fz : Nat × Nat} (h : w.heap[B]? = some (.cells cc e fz)) : w.shape? B = some (e, cc.size) := by
  simp [World.shape?, h]
theorem run_view {B : Nat} {cc : Array Value} {e : TypeId} {fz : Nat × Nat} (h : w.heap[B]? = some (.cells cc e fz)) : (viewAt B).run P w = .ok none w := by
  simp [viewAt, shape, Sem.run, shape_of h]
theorem run_seen {B o : Nat} {cc : Array Value} {e : TypeId} {fz : Nat × Nat} (h : w.heap[B]? = some (.cells cc e fz)) : (Conv.seenAt ⟨B, o, none⟩).run P w = .ok ⟨B, o, none⟩ w := by
  simp [Conv.seenAt, run_view h]
theorem run_cellsIn {B : Nat} {cc : Array Value} {e : TypeId} {fz : Nat × Nat} (h : w.heap[B]? = some (.cells cc e fz)) : (cellsIn B).run P w = .ok (some cc.size) w := by
  simp [cellsIn, shape, Sem.run, shape_of h]
theorem run_variables {B o : Nat} {cc : Array Value} {e u : TypeId} {n : Nat} {fz : Nat × Nat} (h : w.heap[B]? = some (.cells cc e fz)) :
    (variablesAt ⟨B, o, none⟩ u n).run P w = .ok (liesAt P P.depth e (cc.size / P.cellsOf e) o u n) w := by
  simp [variablesAt, shape, Sem.run, shape_of h]

theorem dConvPtr_ok (hR : Rel P base m M w) {src dst : TypeId} {x x' v : Value} (hx : VRel m x x') (h : dConvPtr P src dst x M = some v) :
    ∃ v', (convert src dst x').run P w = .ok v' w ∧ VRel m v v' := by
  unfold dConvPtr at h
  try simp only [pund_eq] at h
  split at h
  case h_2 => cases h
  rename_i b o
  obtain ⟨L, hL, rfl⟩ := hx.ptr_inv
  split at h
  · rename_i t hs hd
    split at h
    · rename_i n c es lo fz ro hn hg
      simp only [cond_eq_ite, Nat.blt_eq] at h
      split at h
      · rename_i hlt
        cases h
        obtain ⟨cc, e, f, hh, hv, _⟩ := hR.obj b L _ hL hg
        have hlen := hv.length
        have h2 : cc.toList.length = cc.size := rfl
        have hsz : L.off + c.length ≤ cc.size := by
          simp only [seg, List.length_take, List.length_drop] at hlen
          omega
        have hno : ¬ (L.off + o ≥ cc.size) := by omega
        refine ⟨_, ?_, hx⟩
        simp [convert, run_und w hs, run_und w hd, Conv.unsafePointer, run_seen hh, run_cellsIn hh, run_size w hn, hno]
      · cases h
    · cases h
  · rename_i u hs hd
    split at h
    · rename_i n c t fz ro hn hg
      simp only [cond_eq_ite] at h
      split at h
      · rename_i hlie
        cases h
        obtain ⟨cc, e, f, hh, hv, hlo, _⟩ := hR.obj b L _ hL hg
        obtain ⟨rfl, h0, hsz⟩ := (hlo.1 rfl).2 t rfl
        have hlie' : liesAt P P.depth e (cc.size / P.cellsOf e) (L.off + o) u 1 = true := by rw [hsz, h0, Nat.zero_add]; exact hlie
        refine ⟨_, ?_, hx⟩
        simp [convert, run_und w hs, run_und w hd, Conv.unsafePointer, run_seen hh, run_size w hn, run_variables hh, hlie']
      · cases h
    · cases h
  · cases h

/-! ### bytes -/
theorem bytesOf_rel : ∀ {l l' : List Value} {acc s : ByteArray}, VsRel m l l' → bytesOf l acc = some s → bytesOf l' acc = some s
  | [], l', acc, s, hr, h => by cases hr; exact h
  | x :: l, l', acc, s, hr, h => by
    cases hr with
    | cons h1 h2 =>
      unfold bytesOf at h
      try simp only [pinfo_eq, pund_eq, pfn_eq] at h
      split at h
      · rename_i he; cases he
      · rename_i he
        cases he
        cases h1
        simp only [bytesOf]
        exact bytesOf_rel h2 h
      · cases h

theorem loadBytes_run {B : Nat} : ∀ (l : List Value) (o : Nat) {acc s : ByteArray}, bytesOf l acc = some s → (∀ j v, l[j]? = some v → w.cell? ⟨B, o + j, none⟩ = some v) →
    (loadBytes ⟨B, o, none⟩ acc l.length).run P w = .ok s w
  | [], o, acc, s, h, _ => by
    simp only [bytesOf, Option.some.injEq] at h
    subst h
    simp [loadBytes]
  | x :: l, o, acc, s, h, hc => by
    unfold bytesOf at h
    try simp only [pinfo_eq, pund_eq, pfn_eq] at h
    split at h
    · rename_i he; cases he
    · rename_i n he
      cases he
      have h0 := hc 0 _ rfl
      simp only [Nat.add_zero] at h0
      have ih := loadBytes_run l (o + 1) h fun j v hj => by
        have := hc (j + 1) v (by simpa using hj)
        rw [← this]; congr 2; omega
      simp only [List.length_cons, loadBytes, Sem.run_bind, run_load, h0, Result.andThen_ok, add_none]
      exact ih
    · cases h

theorem bytesOf_ints : ∀ {l : List Value} {acc s : ByteArray}, bytesOf l acc = some s → ∃ ns : List Int, l = ns.map (fun n => Value.int .u8 n)
  | [], _, _, _ => ⟨[], rfl⟩
  | x :: l, acc, s, h => by
    unfold bytesOf at h
    try simp only [pinfo_eq, pund_eq, pfn_eq] at h
    split at h
    · rename_i he; cases he
    · rename_i he
      cases he
      obtain ⟨ns, rfl⟩ := bytesOf_ints h
      exact ⟨_ :: ns, rfl⟩
    · cases h

theorem foldl_bytes : ∀ {ns : List Int} {acc s : ByteArray}, bytesOf (ns.map (fun n => Value.int .u8 n)) acc = some s → ns.foldl (fun r n => r.push (UInt8.ofNat n.toNat)) acc = s
  | [], acc, s, h => by simpa [bytesOf] using h
  | n :: ns, acc, s, h => by
    simp only [List.map_cons, bytesOf] at h
    simp only [List.foldl_cons]
    exact foldl_bytes h

theorem bytesString_ok (hR : Rel P base m M w) {src dst e : TypeId} {b o len cap : Nat} {x' : Value} {cs : List Value} {s : ByteArray} (hx : VRel m (.slice (some ⟨b, o, none⟩) len cap) x')
    (hs : P.underlying src = some (.slice e)) (he : P.underlying e = some (.int .u8)) (hd : P.underlying dst = some .string) (hr : M.read b o len = some cs) (hb : bytesOf cs .empty = some s) :
    (convert src dst x').run P w = .ok (.string s) w := by
  cases hx with
  | slice hL =>
    obtain ⟨cs', hv, hl, hc⟩ := read_spec hR hL hr
    have hb' := bytesOf_rel hv hb
    obtain ⟨ns, rfl⟩ := bytesOf_ints hb'
    rw [run_convert_bytes_string w src dst e _ _ _ hs he hd, run_bytesToString w _ _ _ ns (by rw [loadCells_run hl hc])]
    rw [foldl_bytes hb']

theorem freeze_spec {a : Addr} {n : Nat} (h : n ≠ 0) {cc : Array Value} {e : TypeId} {f : Nat × Nat} (hh : w.heap[a.block]? = some (.cells cc e f)) :
    (w.freeze a n).heap.size = w.heap.size ∧ (∃ f', (w.freeze a n).heap[a.block]? = some (.cells cc e f')) ∧ ∀ B, B ≠ a.block → (w.freeze a n).heap[B]? = w.heap[B]? := by
  unfold World.freeze
  rw [if_neg h]
  refine ⟨by simp, ?_, fun B hB => ?_⟩
  · obtain ⟨lo, hi⟩ := f
    simp only [Array.getElem?_modify, if_true, hh, Option.map_some]
    exact ⟨_, rfl⟩
  · simp only [Array.getElem?_modify, if_neg (Ne.symm hB)]

theorem liesAt_row {e : TypeId} (hc : P.cellsOf e = 1) (count off n : Nat) (hn : off + n ≤ count) : liesAt P P.depth e count off e n = true := by
  have hd : P.depth = (2 * (P.types.size + Made.depth) + 1) + 1 := rfl
  rw [hd]
  simp only [liesAt, Bool.or_eq_true]
  left
  rw [hd]
  simp [rowAt, hc, hn, sameLayout, Nat.mod_one]
theorem dStringL_ok (hR : Rel P base m M w) {ts : Array TypeId} {ty t e : TypeId} {b o k es : Nat} {L : Loc} {c : List Value} {fz : Bool} {v : Value} {M' : Mem} (ht : ts[0]? = some t) (hL : m b = some L)
    (hu : P.underlying t = some (.pointer e)) (hg : M.get b = some (.cells c es true fz false))
    (h : (bif Nat.beq (es / 65536) (e + 1) && Nat.ble (o + (k + 1)) c.length && Nat.ble (k + 1) 1073741824 && isU8 (P.underlying e) && Nat.beq (P.cellsOf e) 1 then
        match bytesOf ((c.drop o).take (k + 1)) .empty with
        | some s => some (Value.string s, M.put b (.cells c es true true false))
        | none => none
      else none) = some (v, M')) :
    VOK P base m M w (Builtin.unsafeString_ ts ty #[.pointer (some ⟨L.block, L.off + o, none⟩), .int .i64 (Int.ofNat (k + 1))]) v M' := by
  simp only [cond_eq_ite, Bool.and_eq_true, Nat.ble_eq, Nat.beq_eq] at h
  split at h
  case isFalse => cases h
  rename_i hcond
  obtain ⟨⟨⟨⟨hes, hle⟩, hk⟩, _⟩, hone⟩ := hcond
  split at h
  case h_2 => cases h
  rename_i s hby
  simp only [Option.some.injEq, Prod.mk.injEq] at h
  obtain ⟨rfl, rfl⟩ := h
  have hown : M.own b := ⟨_, hg, rfl⟩
  obtain ⟨cc, e1, f, hh, hv, hlo, _, hrest⟩ := hR.obj b L _ hL hg
  have he1 : e1 = e := hlo.2 rfl e hes
  subst he1
  obtain ⟨hbase, hsize, _⟩ := hrest rfl
  have hread : M.read b o (k + 1) = some ((c.drop o).take (k + 1)) := by
    rw [Mem.read_eq]
    rw [hg]
    simp only [cond_eq_ite, Nat.ble_eq]
    rw [if_pos hle]
  obtain ⟨cs', hvr, hl, hc⟩ := read_spec hR hL hread
  have hby' := bytesOf_rel hvr hby
  have hrun := loadBytes_run (P := P) (w := w) (B := L.block) cs' (L.off + o) hby' hc
  rw [hl] at hrun
  have hlie' : liesAt P P.depth e1 (cc.size / P.cellsOf e1) (L.off + o) e1 (k + 1) = true := by
    rw [hone, Nat.div_one]
    exact liesAt_row hone _ _ _ (by omega)
  let w' : World := w.freeze ⟨L.block, L.off + o, none⟩ (k + 1)
  obtain ⟨hs', ⟨fz', hat⟩, hoth⟩ : w'.heap.size = w.heap.size ∧ (∃ f', w'.heap[L.block]? = some (.cells cc e1 f')) ∧ ∀ B, B ≠ L.block → w'.heap[B]? = w.heap[B]? := freeze_spec (a := ⟨L.block, L.off + o, none⟩) (by omega) hh
  have hos : w'.os = w.os := by show (World.freeze w _ _).os = _; unfold World.freeze; split <;> rfl
  have htp : w'.tape = w.tape := by show (World.freeze w _ _).tape = _; unfold World.freeze; split <;> rfl
  have hout : w'.output = w.output := by show (World.freeze w _ _).output = _; unfold World.freeze; split <;> rfl
  refine ⟨m, w', .string s, ?_, .string _, hR.put hL hown hs' hoth ⟨cc, e1, fz', hat, hv, hlo, (fun h => by cases h), fun _ => ⟨hbase, hsize, (fun h => by cases h)⟩⟩, Fr.put (w' := w') hR hL hown hos htp hout hs' hoth _⟩
  have hn0 : ¬ (Int.ofNat (k + 1) < 0) := by simp only [Int.ofNat_eq_natCast]; omega
  have hn1 : ¬ (Int.ofNat (k + 1) > IntKind.i64.max) := by
    simp [IntKind.max, IntKind.signed, IntKind.bits]; omega
  have hn2 : ¬ (Int.ofNat (k + 1) = 0) := by simp only [Int.ofNat_eq_natCast]; omega
  have hn3 : (Int.ofNat (k + 1)).toNat = k + 1 := rfl
  generalize Int.ofNat (k + 1) = z at *
  have hd : Builtin.unsafeString_ ts ty #[.pointer (some ⟨L.block, L.off + o, none⟩), .int .i64 z] = bind (asInt (.int .i64 z)) _ := rfl
  rw [hd]
  simp only [asInt, asIntOf, Sem.run_bind, Sem.run_pure, Sem.run_ite, Result.andThen_ok, ht, hn0, hn1, hn2, if_false, hn3, elemOf, run_und w hu, run_variables hh, hlie', if_true, hrun, run_freeze, w']

theorem dSliceData_ok (_ : Rel P base m M w) {ts : Array TypeId} {ty : TypeId} {x x' v : Value} (hx : VRel m x x') (h : dSliceData x = some v) :
    ∃ v', (Builtin.unsafeSliceData_ ts ty #[x']).run P w = .ok v' w ∧ VRel m v v' := by
  unfold dSliceData at h
  split at h
  · cases h; cases hx
    exact ⟨.pointer none, rfl, .nilPtr⟩
  · rename_i a l c
    cases h
    cases hx with
    | slice hL =>
      rename_i b o L
      refine ⟨.pointer (some ⟨L.block, L.off + o, none⟩), ?_, .ptr hL⟩
      have hne : c + 1 + L.extra ≠ 0 := by omega
      have hd : Builtin.unsafeSliceData_ ts ty #[.slice (some ⟨L.block, L.off + o, none⟩) l (c + 1 + L.extra)] = (if c + 1 + L.extra ≠ 0 then pure (.pointer (some ⟨L.block, L.off + o, none⟩)) else _) := rfl
      rw [hd, if_pos hne]; rfl
  · cases h

theorem run_getObj_chan' {r cap s rc : Nat} {buf : Array Value} {cl tm : Bool} (h : w.heap[r]? = some (.chan cap buf cl s rc tm)) : (getObj r).run P w = .ok (.chan cap buf cl s rc tm) w := by
  simp [getObj, Sem.run, h]
theorem putChan (hR : Rel P base m M w) {b : Nat} {L : Loc} {cl cl' : Bool} {s r : Nat} (hL : m b = some L) (hg : M.get b = some (.chan cl)) :
    Rel P base m (M.put b (.chan cl')) { w with heap := w.heap.setIfInBounds L.block (.chan 0 #[] cl' s r false) } ∧ Fr base m m M (M.put b (.chan cl')) w { w with heap := w.heap.setIfInBounds L.block (.chan 0 #[] cl' s r false) } := by
  have hown : M.own b := ⟨_, hg, rfl⟩
  obtain ⟨_, _, hh, hbase⟩ := hR.obj b L _ hL hg
  have hlt := lt_of_heap hh
  have hw : ∀ B, B ≠ L.block → (w.heap.setIfInBounds L.block (Obj.chan 0 #[] cl' s r false))[B]? = w.heap[B]? := fun B hB => by
    rw [Array.getElem?_setIfInBounds_ne (Ne.symm hB)]
  exact ⟨hR.put hL hown (by simp) hw ⟨s, r, by simp [hlt], hbase⟩, Fr.put (w' := { w with heap := w.heap.setIfInBounds L.block (.chan 0 #[] cl' s r false) }) hR hL hown rfl rfl rfl (by simp) hw _⟩
theorem dClose_ok (hR : Rel P base m M w) {ts : Array TypeId} {ty : TypeId} {x x' v : Value} {M' : Mem} (hx : VRel m x x') (h : dClose x M = some (v, M')) :
    VOK P base m M w (Builtin.close_ ts ty #[x']) v M' := by
  unfold dClose at h
  split at h
  case h_2 => cases h
  rename_i r
  split at h
  case h_2 => cases h
  rename_i hg
  cases h
  cases hx with
  | chan hL =>
    rename_i L
    obtain ⟨s, rc, hh, _⟩ := hR.obj r L _ hL hg
    obtain ⟨h1, h2⟩ := putChan (cl' := true) (s := s) (r := rc) hR hL hg
    refine ⟨m, _, .tuple #[], ?_, .tuple .nil, h1, h2⟩
    have hd : Builtin.close_ ts ty #[.chan (some L.block)] = bind (getObj L.block) _ := rfl
    rw [hd]
    simp [run_getObj_chan' hh, setObj, Sem.run, hh]

theorem dString_ok (hR : Rel P base m M w) {ts : Array TypeId} {ty t : TypeId} {p p' v : Value} {n : Int} {M' : Mem} (ht : ts[0]? = some t) (hp : VRel m p p') (h : dString P t p n M = some (v, M')) :
    VOK P base m M w (Builtin.unsafeString_ ts ty #[p', .int .i64 n]) v M' := by
  unfold dString at h
  try simp only [pund_eq] at h
  split at h
  case h_2 => cases h
  rename_i b o k e hu
  obtain ⟨L, hL, rfl⟩ := hp.ptr_inv
  split at h
  case h_3 => cases h
  case h_2 => rename_i c es fz hg; exact dStringL_ok hR ht hL hu hg h
  rename_i c t0 fz hg
  simp only [cond_eq_ite, Bool.and_eq_true, Nat.ble_eq] at h
  split at h
  case isFalse => cases h
  rename_i hcond
  obtain ⟨⟨hlie, hle⟩, hk⟩ := hcond
  split at h
  case h_2 => cases h
  rename_i s hby
  simp only [Option.some.injEq, Prod.mk.injEq] at h
  obtain ⟨rfl, rfl⟩ := h
  have hown : M.own b := ⟨_, hg, rfl⟩
  obtain ⟨cc, e1, f, hh, hv, hlo, _, hrest⟩ := hR.obj b L _ hL hg
  obtain ⟨rfl, h0, hsz⟩ := (hlo.1 rfl).2 t0 rfl
  obtain ⟨hbase, hsize, _⟩ := hrest rfl
  have hread : M.read b o (k + 1) = some ((c.drop o).take (k + 1)) := by
    rw [Mem.read_eq]
    rw [hg]
    simp only [cond_eq_ite, Nat.ble_eq]
    rw [if_pos hle]
  obtain ⟨cs', hvr, hl, hc⟩ := read_spec hR hL hread
  have hby' := bytesOf_rel hvr hby
  have hrun := loadBytes_run (P := P) (w := w) (B := L.block) cs' (L.off + o) hby' hc
  rw [hl] at hrun
  have hlie' : liesAt P P.depth e1 (cc.size / P.cellsOf e1) (L.off + o) e (k + 1) = true := by rw [hsz, h0, Nat.zero_add]; exact hlie
  let w' : World := w.freeze ⟨L.block, L.off + o, none⟩ (k + 1)
  obtain ⟨hs', ⟨fz', hat⟩, hoth⟩ : w'.heap.size = w.heap.size ∧ (∃ f', w'.heap[L.block]? = some (.cells cc e1 f')) ∧ ∀ B, B ≠ L.block → w'.heap[B]? = w.heap[B]? := freeze_spec (a := ⟨L.block, L.off + o, none⟩) (by omega) hh
  have hos : w'.os = w.os := by show (World.freeze w _ _).os = _; unfold World.freeze; split <;> rfl
  have htp : w'.tape = w.tape := by show (World.freeze w _ _).tape = _; unfold World.freeze; split <;> rfl
  have hout : w'.output = w.output := by show (World.freeze w _ _).output = _; unfold World.freeze; split <;> rfl
  refine ⟨m, w', .string s, ?_, .string _, hR.put hL hown hs' hoth ⟨cc, e1, fz', hat, hv, hlo, (fun h => by cases h), fun _ => ⟨hbase, hsize, (fun h => by cases h)⟩⟩, Fr.put (w' := w') hR hL hown hos htp hout hs' hoth _⟩
  have hn0 : ¬ (Int.ofNat (k + 1) < 0) := by simp only [Int.ofNat_eq_natCast]; omega
  have hn1 : ¬ (Int.ofNat (k + 1) > IntKind.i64.max) := by
    simp [IntKind.max, IntKind.signed, IntKind.bits]; omega
  have hn2 : ¬ (Int.ofNat (k + 1) = 0) := by simp only [Int.ofNat_eq_natCast]; omega
  have hn3 : (Int.ofNat (k + 1)).toNat = k + 1 := rfl
  generalize Int.ofNat (k + 1) = z at *
  have hd : Builtin.unsafeString_ ts ty #[.pointer (some ⟨L.block, L.off + o, none⟩), .int .i64 z] = bind (asInt (.int .i64 z)) _ := rfl
  rw [hd]
  simp only [asInt, asIntOf, Sem.run_bind, Sem.run_pure, Sem.run_ite, Result.andThen_ok, ht, hn0, hn1, hn2, if_false, hn3, elemOf, run_und w hu, run_variables hh, hlie', if_true, hrun, run_freeze, w']

/-! ### the atomic functions, maps.clone -/
theorem dRd_ok (hR : Rel P base m M w) {t : Extern.Atomic.T} {p p' v : Value} (hp : VRel m p p') (h : dRd t p M = some v) :
    ∃ a' v', p' = .pointer (some a') ∧ (Extern.Atomic.read t a').run P w = .ok v' w ∧ VRel m v v' := by
  unfold dRd at h
  try simp only [pinfo_eq, pund_eq, pfn_eq] at h
  split at h
  case h_2 => cases h
  rename_i b o
  obtain ⟨L, hL, rfl⟩ := hp.ptr_inv
  split at h
  case h_2 => cases h
  rename_i x hr
  obtain ⟨cs', hv, hl, hc⟩ := read_spec hR hL hr
  cases hv with
  | cons h1 h2 =>
    have h0 := hc 0 _ rfl
    simp only [Nat.add_zero] at h0
    split at h
    · rename_i k k' n
      simp only [cond_eq_ite, decide_eq_true_eq] at h
      split at h
      · rename_i hk
        subst hk
        cases h
        cases h1
        exact ⟨_, _, rfl, by simp [Extern.Atomic.read, run_load, h0], .int _ _⟩
      · cases h
    · cases h
      refine ⟨_, _, rfl, ?_, h1⟩
      cases h1 <;> simp [Extern.Atomic.read, run_load, h0]
    · cases h

theorem dWr_ok (hR : Rel P base m M w) {p p' x x' : Value} {M' : Mem} (hp : VRel m p p') (hx : VRel m x x') (h : dWr p x M = some M') :
    ∃ a' w', p' = .pointer (some a') ∧ (store a' x' .atomic).run P w = .ok () w' ∧ Rel P base m M' w' ∧ Fr base m m M M' w w' ∧ w.frozen? a' = false ∧ (viewAt a'.block).run P w = .ok none w := by
  unfold dWr at h
  try simp only [pinfo_eq, pund_eq, pfn_eq] at h
  split at h
  case h_2 => cases h
  rename_i b o
  obtain ⟨L, hL, rfl⟩ := hp.ptr_inv
  split at h
  case h_2 => cases h
  rename_i y hr
  obtain ⟨cs', hv, hl, hc⟩ := read_spec hR hL hr
  have hcell : ∃ z, w.cell? ⟨L.block, L.off + o, none⟩ = some z := by
    cases hv with
    | cons h1 h2 =>
      have h0 := hc 0 _ rfl
      simp only [Nat.add_zero] at h0
      exact ⟨_, h0⟩
  obtain ⟨z, hz⟩ := hcell
  obtain ⟨w', hrun, hR', hF⟩ := write_ok hR hL (VsRel.cons hx .nil) h
  have hone : oneCell x' = true := by
    unfold Mem.write at h
    split at h
    · simp only [cond_eq_ite, Bool.and_eq_true, List.all_cons, List.all_nil, Bool.and_true] at h
      split at h
      · rename_i hcc
        rw [hx.oneCell]; exact hcc.2
      · cases h
    · cases h
  obtain ⟨cc, e, fz, hh, hfz⟩ : ∃ cc e fz, w.heap[L.block]? = some (.cells cc e fz) ∧ w.frozen? ⟨L.block, L.off + o, none⟩ = false := by
    unfold Mem.write at h
    split at h
    · rename_i c es lo hg
      obtain ⟨cc, e, fz, hh, hseg, _, _, hrest⟩ := hR.obj b L _ hL hg
      obtain ⟨_, hsz, hfz⟩ := hrest rfl
      refine ⟨cc, e, fz, hh, ?_⟩
      have hlt : L.off + o < cc.size := by
        rw [cell_of_heap hh] at hz
        exact (Array.getElem?_eq_some_iff.1 hz).1
      have := hfz rfl _ hlt
      obtain ⟨lo', hi'⟩ := fz
      simp only [World.frozen?, hh]
      simp only at this
      simpa using this
    · cases h
  refine ⟨_, w', rfl, ?_, hR', hF, hfz, run_view hh⟩
  have hone' : x'.oneCell' = true := by cases x' <;> first | rfl | (simp [oneCell] at hone)
  simp only [storeCells, add_none, Nat.add_zero, Sem.run_bind, run_store P w _ _ _ hone', hz, hfz, Bool.false_eq_true, if_false, Result.andThen_ok, Sem.run_pure] at hrun ⊢
  exact hrun

def semOf : XK → Array Value → Sem Value
  | .load t => Extern.Atomic.loadT t
  | .store => Extern.Atomic.storeT
  | .cas t => Extern.Atomic.casT t
  | .add k => Extern.Atomic.update (Op.intArith .add) k true
  | .clone => Extern.MapsClone.clone
  | .same => Extern.AbiNoEscape.same
  | .mark m => Extern.Race.marked m


theorem two {args' : Array Value} {a b : Value} (h : args'.toList = [a, b]) : args' = #[a, b] := by apply Array.ext'; simpa using h
theorem one {args' : Array Value} {a : Value} (h : args'.toList = [a]) : args' = #[a] := by apply Array.ext'; simpa using h
theorem three {args' : Array Value} {a b c : Value} (h : args'.toList = [a, b, c]) : args' = #[a, b, c] := by apply Array.ext'; simpa using h

theorem none_flat : flat (.tuple #[]) = true := by rfl

theorem touches_ok {a : Addr} (hv : (viewAt a.block).run P w = .ok none w) (hf : w.frozen? a = false) : (Extern.Atomic.touchesFrozen a).run P w = .ok false w := by
  simp [Extern.Atomic.touchesFrozen, hv, hf]

theorem dX_ok (hR : Rel P base m M w) {k : XK} {args : List Value} {args' : Array Value} {v : Value} {M' : Mem} (ha : VsRel m args args'.toList) (h : dX P k args M = some (v, M')) :
    VOK P base m M w (semOf k args') v M' := by
  unfold dX at h
  try simp only [pinfo_eq, pund_eq, pfn_eq] at h
  split at h
  · rename_i t p
    cases hr : dRd t p M with
    | none => simp [hr] at h
    | some x =>
      simp only [hr, Option.map_some, Option.some.injEq, Prod.mk.injEq] at h
      obtain ⟨rfl, rfl⟩ := h
      generalize hal : args'.toList = al at ha
      cases ha with
      | cons h1 h2 =>
        cases h2
        rw [one hal]
        obtain ⟨a', v', rfl, hrun, hv⟩ := dRd_ok hR h1 hr
        exact VOK.same hR (by
          have hd : semOf (.load t) #[.pointer (some a')] = bind (asAddr (.pointer (some a'))) _ := rfl
          rw [hd]
          simp [asAddr, hrun]) hv
  · rename_i p x
    cases hw : dWr p x M with
    | none => simp [hw] at h
    | some M1 =>
      simp only [hw, Option.map_some, Option.some.injEq, Prod.mk.injEq] at h
      obtain ⟨rfl, rfl⟩ := h
      generalize hal : args'.toList = al at ha
      cases ha with
      | cons h1 h2 =>
        cases h2 with
        | cons h3 h4 =>
          cases h4
          rw [two hal]
          obtain ⟨a', w', rfl, hrun, hR', hF, _⟩ := dWr_ok hR h1 h3 hw
          exact ⟨m, w', _, by
            have hd : ∀ y, semOf .store #[.pointer (some a'), y] = bind (asAddr (.pointer (some a'))) _ := fun _ => rfl
            rw [hd]
            simp [asAddr, Array.getLit, hrun]
            rfl, flat_rel none_flat, hR', hF⟩
  · rename_i t p old new
    split at h
    case h_2 => cases h
    rename_i x M1 hr hw
    generalize hal : args'.toList = al at ha
    cases ha with
    | cons h1 h2 =>
      cases h2 with
      | cons h3 h4 =>
        cases h4 with
        | cons h5 h6 =>
          cases h6
          obtain ⟨a', v', rfl, hrun, hv⟩ := dRd_ok hR h1 hr
          obtain ⟨a2, w', he, hst, hR', hF, hfz, hvw⟩ := dWr_ok hR h1 h5 hw
          cases he
          have htc := touches_ok (P := P) hvw hfz
          have hd : ∀ y z, semOf (.cas t) #[.pointer (some a'), y, z] = bind (asAddr (.pointer (some a'))) _ := fun _ _ => rfl
          have key : ∀ q, dSame t x old = some q → ∀ r : Result Value, (if q = true then .ok (.bool true) w' else .ok (.bool false) w) = r → (semOf (.cas t) args').run P w = r := by
            intro q hs r hr0
            rw [three hal, hd]
            unfold dSame at hs
            split at hs
            · cases hs; cases hv; cases h3
              rename_i k1 x1 k2 y1
              by_cases hxy : x1 = y1
              · subst hxy
                simp only [decide_true, if_true] at hr0
                simp [asAddr, Array.getLit, htc, hrun, hst, hr0]
              · have hne : (x1 == y1) = false := by simp [hxy]
                simp only [hxy, decide_false, Bool.false_eq_true, if_false] at hr0
                simp [asAddr, Array.getLit, htc, hrun, hne, hxy, hr0]
            · cases hs; cases hv; cases h3
              simp only [if_true] at hr0
              simp [asAddr, Array.getLit, htc, hrun, samePointer, hst, hr0]
            · cases hs
              simp only [Bool.false_eq_true, if_false] at hr0
              cases h3
              cases hv <;> simp [asAddr, Array.getLit, htc, hrun, samePointer, hr0]
            · cases hs
              simp only [Bool.false_eq_true, if_false] at hr0
              cases hv
              cases h3 <;> simp [asAddr, Array.getLit, htc, hrun, samePointer, hr0]
            · rename_i b o b' o'
              obtain ⟨L, hL, rfl⟩ := hv.ptr_inv
              obtain ⟨L', hL', rfl⟩ := h3.ptr_inv
              by_cases hbb : b = b'
              · subst hbb
                rw [hL] at hL'; cases hL'
                have hb1 : Nat.beq b b = true := Nat.beq_refl b
                simp only [hb1, cond_true, Option.some.injEq] at hs
                subst hs
                have : (({ block := L.block, off := L.off + o, spot := none } : Addr) == { block := L.block, off := L.off + o', spot := none }) = Nat.beq o o' := by
                  rw [Bool.eq_iff_iff]; simp
                cases hoo : Nat.beq o o' with
                | true =>
                  rw [hoo] at hr0 this
                  simp only [if_true] at hr0
                  simp [asAddr, Array.getLit, htc, hrun, samePointer, sameAddr, this, hst, hr0]
                | false =>
                  rw [hoo] at hr0 this
                  simp only [Bool.false_eq_true, if_false] at hr0
                  simp [asAddr, Array.getLit, htc, hrun, samePointer, sameAddr, this, hr0]
              · have hb1 : Nat.beq b b' = false := by
                  cases hq : Nat.beq b b' with
                  | false => rfl
                  | true => exact absurd (Nat.eq_of_beq_eq_true hq) hbb
                simp only [hb1, cond_false] at hs
                cases hs
            · cases hs
          split at h
          · rename_i hs
            cases h
            exact ⟨m, w', .bool true, key true hs _ (by simp), .bool _, hR', hF⟩
          · rename_i hs
            cases h
            exact ⟨m, w, .bool false, key false hs _ (by simp), .bool _, hR, Fr.refl _ _ _ _⟩
          · cases h
  · rename_i k p j y
    split at h
    case h_2 => cases h
    rename_i k' x hr
    split at h
    case h_2 => cases h
    rename_i z hp
    simp only [cond_eq_ite] at h
    split at h
    case isFalse => cases h
    rename_i hfl
    cases hw : dWr p z M with
    | none => simp [hw] at h
    | some M1 =>
      simp only [hw, Option.map_some, Option.some.injEq, Prod.mk.injEq] at h
      obtain ⟨rfl, rfl⟩ := h
      generalize hal : args'.toList = al at ha
      cases ha with
      | cons h1 h2 =>
        cases h2 with
        | cons h3 h4 =>
          cases h4
          rw [two hal]
          cases h3
          obtain ⟨a', v', rfl, hrun, hv⟩ := dRd_ok hR h1 hr
          cases hv
          obtain ⟨a2, w', he, hst, hR', hF, _⟩ := dWr_ok hR h1 (flat_rel (m := m) hfl) hw
          cases he
          refine ⟨m, w', z, ?_, flat_rel hfl, hR', hF⟩
          have hd : ∀ y, semOf (.add k) #[.pointer (some a'), y] = bind (asAddr (.pointer (some a'))) _ := fun _ => rfl
          rw [hd]
          simp [asAddr, Array.getLit, hrun, asInt, asIntOf, prun_run hp w, hst]
  · rename_i x
    cases h
    generalize hal : args'.toList = al at ha
    cases ha with
    | cons h1 h2 =>
      cases h2
      rw [one hal]
      exact VOK.same hR (by
        have hd : ∀ y, semOf .same #[y] = pure y := fun _ => rfl
        rw [hd]
        rfl) h1
  · rename_i mk a
    cases h
    generalize hal : args'.toList = al at ha
    cases ha with
    | cons h1 h2 =>
      cases h2
      rw [one hal]
      cases h1
      exact VOK.same hR (by
        have hd : ∀ a', semOf (.mark mk) #[.pointer (some a')] = (do mark (mk a'); pure (.tuple #[])) := fun _ => rfl
        rw [hd]
        simp) (.tuple .nil)
  · rename_i t b
    split at h
    case h_2 => cases h
    rename_i es hg
    cases hn : M.new (.map es) with
    | none => simp [hn] at h
    | some q =>
      obtain ⟨b', M1⟩ := q
      simp only [hn, Option.map_some, Option.some.injEq, Prod.mk.injEq] at h
      obtain ⟨rfl, rfl⟩ := h
      generalize hal : args'.toList = al at ha
      cases ha with
      | cons h1 h2 =>
        cases h2
        rw [one hal]
        cases h1 with
        | iface h1 =>
          cases h1 with
          | map hL =>
            rename_i L0
            obtain ⟨es', clock, hh, he, _⟩ := hR.obj b _ _ hL hg
            let L : Loc := ⟨w.heap.size, 0, 0⟩
            have hw : ∀ B, B < w.heap.size → (w.heap.push (Obj.map es' clock))[B]? = w.heap[B]? := by
              intro B hB; rw [Array.getElem?_push, if_neg (by omega)]
            have hnone : m b' = none := by
              obtain ⟨hb, _⟩ := Mem.new_spec hn
              cases hmb : m b' with
              | none => rfl
              | some L' => have := hR.fresh b' L' hmb; omega
            obtain ⟨_, hR'⟩ := Rel.made (w' := { w with heap := w.heap.push (.map es' clock) }) (L := L) hR hn (Nat.le_refl _) (by simp [L]) (by simp) hw
              ⟨es', clock, by simp [L], he.mono (Inj.le_set L hnone), hR.base⟩
            refine ⟨_, _, .iface t (.map (some w.heap.size)), ?_, ?_, hR', Fr.made hR hn hnone rfl rfl rfl (Nat.le_refl _) (by simp) hw⟩
            · have hd : semOf .clone #[.iface t (.map (some L0.block))] = bind (getObj L0.block) _ := rfl
              rw [hd]
              simp [run_getObj_map w _ _ _ hh]
            · exact .iface (VRel.map (m := m.set b' L) (Inj.set_same m b' L))
  · cases h

theorem table_ok : ∀ p ∈ xTable, Extern.allGenericRows.lookup p.1 = none ∧ Extern.allTypedRows.lookup p.1 = none ∧ Extern.allRows.lookup p.1 = some (semOf p.2) ∧ Extern.allNextRows.lookup p.1 = none := by
  intro p hp
  unfold xTable at hp
  try simp only [pinfo_eq, pund_eq, pfn_eq] at hp
  simp only [List.mem_cons, List.not_mem_nil, or_false] at hp
  rcases hp with rfl | rfl | rfl | rfl | rfl | rfl | rfl | rfl | rfl | rfl | rfl | rfl | rfl | rfl | rfl | rfl | rfl | rfl | rfl | rfl | rfl | rfl | rfl <;> exact ⟨by kernel_rfl, by kernel_rfl, by kernel_rfl, by kernel_rfl⟩
theorem next_blank : Extern.allNextRows.lookup "" = none := by kernel_rfl

theorem lookup_mem {k : XK} {n : String} : ∀ {l : List (String × XK)}, l.lookup n = some k → (n, k) ∈ l
  | [], h => by simp at h
  | (a, b) :: l, h => by
    rw [List.lookup_cons] at h
    split at h
    · rename_i he
      cases h
      have : n = a := by simpa using he
      rw [this]; exact List.mem_cons_self
    · exact List.mem_cons_of_mem _ (lookup_mem h)

theorem dExtern_ok (hR : Rel P base m M w) {d d' : Deferred} {r : R} {M' : Mem} {fn : Fn} {k k' : Array Value} (e1 : d.target = .fn fn k) (e2 : d'.target = .fn fn k') (h1 : VsRel m k.toList k'.toList)
    (h2 : VsRel m d.args.toList d'.args.toList) (h : dExtern P d M = some (r, M')) : OpOK P base m M w (invoke d'.target d'.args) M' r := by
  unfold dExtern at h
  try simp only [pfn_eq] at h
  rw [e1] at h
  split at h
  · rename_i f cap he
    cases he
    split at h
    · rename_i fd hf
      simp only [cond_eq_ite, Bool.and_eq_true, beq_iff_eq] at h
      split at h
      · rename_i hc
        obtain ⟨hb, ho⟩ := hc
        split at h
        · rename_i xk hl
          obtain ⟨g1, g2, g3, g4⟩ := table_ok _ (lookup_mem hl)
          simp only at g1 g2 g3 g4
          cases hx : dX P xk (d.args ++ k).toList M with
          | none => rw [hx] at h; cases h
          | some q =>
            obtain ⟨v, M1⟩ := q
            simp only [hx, Option.map_some, Option.some.injEq, Prod.mk.injEq] at h
            obtain ⟨rfl, rfl⟩ := h
            have hv := dX_ok (args' := d'.args ++ k') hR (by rw [Array.toList_append, Array.toList_append] at *; exact h2.append h1) hx
            obtain ⟨m', w', v', hrun, p1, p2, p3⟩ := hv
            have hnn : ¬ fd.name = "runtime.NumGoroutine" := by
              intro hq
              rw [hq] at hl
              have : (xTable.lookup "runtime.NumGoroutine").isNone = true := by kernel_rfl
              rw [hl] at this; cases this
            rw [Option.isNone_iff_eq_none] at hb
            have hfind : Extern.find fd = some (semOf xk) := by
              unfold Extern.find
              simp only [g1, g2, g3, Option.map_none]
              rfl
            have hnext : Extern.findNext fd = none := by
              unfold Extern.findNext
              simp only [g4, ho, next_blank, Option.map_none]
              rfl
            refine ⟨m', w', .value v', ?_, p1, p2, p3⟩
            rw [e2]
            simp [invoke, callFunc, hf, hnn, hb, hfind, hnext, hrun]
        · cases h
      · cases h
    · cases h
  · cases h
end
end
end Go.Ab
