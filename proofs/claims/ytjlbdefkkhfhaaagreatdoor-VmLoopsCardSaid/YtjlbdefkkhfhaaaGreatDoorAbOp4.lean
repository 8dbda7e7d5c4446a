/- Each operation of the abstract machine is what the model's operation does. Fourth part: checks, maps, comparisons, what is computed without memory. -/
import Derived.Test.YtjlbdefkkhfhaaaGreatDoorAbOp3
import Derived.Conc.LoneCalls
namespace Go.Ab
open Go
noncomputable section

def NRel (m : Inj) : R → Next → Prop
  | .val v, .value v' => VRel m v v'
  | .skip, .skip => True
  | .enter f a, .enter f' a' => f' = f ∧ VsRel m a.toList a'.toList
  | .defer d, .defer d' => ∃ fn c c', d.target = .fn fn c ∧ d'.target = .fn fn c' ∧ VsRel m c.toList c'.toList ∧ VsRel m d.args.toList d'.args.toList
  | .recov, .recover => True
  | _, _ => False

/-- the machine of one goroutine takes this communication in one step, which yields v and leaves the world -/
def CommStep (P : Program) (w : World) (cases : Array CommCase) (blocking : Bool) (shape : CommShape) (v : Value) : Prop :=
  ∀ (fr : Frame) (cs : List Frame) (es : Array Event), stepG P true (Conc.G fr cs) w = .comm (Conc.G fr cs) cases blocking shape w es → step P (Conc.solo (Conc.G fr cs) w) = .next (Conc.solo (Conc.G (fr.finish v) cs) w)

def OpOK (P : Program) (base : Nat) (m : Inj) (M : Mem) (w : World) (s : Sem Next) (M' : Mem) : R → Prop
  | .panic v => ∃ m' w' v', s.run P w = .halt (.panic v') w' ∧ VRel m' v v' ∧ Rel P base m' M' w' ∧ Fr base m m' M M' w w'
  | .comm v => ∃ cases blocking shape v', s.run P w = .ok (.comm cases blocking shape) w ∧ VRel m v v' ∧ CommStep P w cases blocking shape v' ∧ M' = M
  | r => ∃ m' w' n, s.run P w = .ok n w' ∧ NRel m' r n ∧ Rel P base m' M' w' ∧ Fr base m m' M M' w w'

section
variable {P : Program} {base : Nat} {m : Inj} {M : Mem} {w : World}

theorem OpOK.value (hR : Rel P base m M w) {s : Sem Value} {v : Value} (h : ∃ v', s.run P w = .ok v' w ∧ VRel m v v') :
    OpOK P base m M w (do pure (.value (← s))) M (.val v) := by
  obtain ⟨v', h1, h2⟩ := h
  exact ⟨m, w, .value v', by simp [h1], h2, hR, Fr.refl _ _ _ _⟩
theorem OpOK.valueM {s : Sem Value} {v : Value} {M' : Mem} (h : VOK P base m M w s v M') :
    OpOK P base m M w (do pure (.value (← s))) M' (.val v) := by
  obtain ⟨m', w', v', h1, h2, h3, h4⟩ := h
  exact ⟨m', w', .value v', by simp [h1], h2, h3, h4⟩
theorem OpOK.unit {s : Sem Unit} {M' : Mem} (h : UOK P base m M w s M') : OpOK P base m M w (do s; pure .skip) M' .skip := by
  obtain ⟨m', w', h1, h3, h4⟩ := h
  exact ⟨m', w', .skip, by simp [h1], trivial, h3, h4⟩
theorem OpOK.pure (hR : Rel P base m M w) {v v' : Value} (h : VRel m v v') : OpOK P base m M w (Pure.pure (.value v')) M (.val v) :=
  ⟨m, w, .value v', rfl, h, hR, Fr.refl _ _ _ _⟩

theorem nilAhead_run (n : Nat) {t : TypeId} {u : Value} {name : String} {i : TypeInfo} {mth : Method} {f : FuncId} (hi : P.info? t = some i)
    (hm : i.methods.find? (·.name == name) = some mth) (hp : mth.path.toList = []) (hf : mth.func = some (f, true)) :
    (nilAhead (n + 1) t u name).run P w = .ok (some false) w := by
  simp only [nilAhead, Sem.run_bind, run_info w hi, Result.andThen_ok, hm, hp, followBlind, Sem.run_pure, hf]

theorem dNilCheck_ok (hR : Rel P base m M w) {o : Oper} {x : Operand} {ρ ρ' : Operand → Value} (ho : o.op = .nilCheck x) (hx : VRel m (ρ x) (ρ' x))
    {v : Value} (h : dNilCheck P (ρ x) = some v) : OpOK P base m M w (execOp ρ' o) M (.val v) := by
  unfold execOp
  rw [ho]
  simp only
  revert h hx
  generalize ρ x = a
  generalize ρ' x = a'
  intro hx h
  unfold dNilCheck at h
  try simp only [pinfo_eq] at h
  split at h
  · cases h
    cases hx with
    | ptr hL => exact OpOK.pure hR (.ptr hL)
  · cases h
    cases hx with
    | iface hv => exact OpOK.pure hR (.iface hv)
  · rename_i name first captured
    cases hx with
    | func ha hc =>
      rename_i a' c'
      split at h
      · rename_i t u rest hl
        split at h
        · rename_i i hi
          split at h
          · rename_i mth hm
            split at h
            · rename_i f hp hf
              cases h
              rw [hl] at ha
              generalize hal : a'.toList = al at ha
              cases ha with
              | cons h1 h2 =>
                cases h1 with
                | iface hu =>
                  rename_i l' u'
                  have ha0 : a'[0]? = some (.iface t u') := by rw [← Array.getElem?_toList, hal]; rfl
                  refine ⟨m, w, .value (.func (.method name) a' c'), ?_, ?_, hR, Fr.refl _ _ _ _⟩
                  · simp only [ha0]
                    have hna : (nilAhead (P.types.size + Made.depth) t u' name).run P w = .ok (some false) w := by
                      rw [show P.types.size + Made.depth = (P.types.size + 99) + 1 from rfl]
                      exact nilAhead_run _ hi hm hp hf
                    simp [hna]
                  · refine .func ?_ hc
                    rw [hl, hal]; exact .cons (.iface hu) h2
            · cases h
          · cases h
        · cases h
      · cases h
  · rename_i fn first captured hnot
    cases h
    cases hx with
    | func ha hc =>
      rename_i a' c'
      cases fn with
      | method name => simp at hnot
      | _ => exact OpOK.pure hR (.func ha hc)
  · cases h

/-! ### maps -/
theorem findNow_rel (d : TypeDesc) (k : Value) : ∀ (es es' : List MapEntry) (i : Nat), ERel m es es' →
    (Instr.findNow d k es i = some none → Instr.findNow d k es' i = some none) ∧
    (∀ j v, Instr.findNow d k es i = some (some (j, v)) → ∃ v', Instr.findNow d k es' i = some (some (j, v')) ∧ VRel m v v')
  | [], [], i, _ => ⟨fun h => h, fun j v h => by simp [Instr.findNow] at h⟩
  | e :: es, e' :: es', i, ⟨h1, _, h3, h4⟩ => by
    have ih := findNow_rel d k es es' (i + 1) h4
    simp only [Instr.findNow, h1]
    cases Instr.sameNow d k e.key with
    | none => exact ⟨fun h => by simp at h, fun j v h => by simp at h⟩
    | some b =>
      cases b with
      | true =>
        refine ⟨fun h => by simp at h, fun j v h => ?_⟩
        simp only [Option.some.injEq, Prod.mk.injEq] at h
        obtain ⟨rfl, rfl⟩ := h
        exact ⟨_, rfl, h3⟩
      | false => exact ih
  | [], _ :: _, _, h => h.elim
  | _ :: _, [], _, h => h.elim

theorem ERel.key_at : ∀ {es es' : List MapEntry}, ERel m es es' → ∀ i : Nat, (es'[i]?).map (fun e : MapEntry => e.key) = (es[i]?).map (fun e : MapEntry => e.key)
  | [], [], _, _ => rfl
  | e :: es, e' :: es', ⟨h1, _, _, h4⟩, i => by
    cases i with
    | zero => simp [h1]
    | succ i => simpa using ERel.key_at h4 i
  | [], _ :: _, h, _ => h.elim
  | _ :: _, [], h, _ => h.elim
theorem ERel.length : ∀ {es es' : List MapEntry}, ERel m es es' → es'.length = es.length
  | [], [], _ => rfl
  | _ :: _, _ :: _, ⟨_, _, _, h4⟩ => by simp [ERel.length h4]
  | [], _ :: _, h => h.elim
  | _ :: _, [], h => h.elim
theorem ERel.modify {k x x' : Value} (hk : flat k = true) (hx : VRel m x x') : ∀ {es es' : List MapEntry}, ERel m es es' → ∀ i,
    ERel m (setEntry es i k x) (es'.modify i fun e => { e with key := k, val := x' })
  | [], [], _, _ => by simp [setEntry, ERel]
  | e :: es, e' :: es', ⟨h1, h2, h3, h4⟩, i => by
    cases i with
    | zero => simpa [setEntry] using ⟨rfl, hk, hx, h4⟩
    | succ i =>
      have := ERel.modify hk hx h4 i
      simp only [setEntry] at this
      simpa [setEntry] using ⟨h1, h2, h3, this⟩
  | [], _ :: _, h, _ => h.elim
  | _ :: _, [], h, _ => h.elim
theorem ERel.snoc {k x x' : Value} {b : Nat} (hk : flat k = true) (hx : VRel m x x') : ∀ {es es' : List MapEntry}, ERel m es es' →
    ERel m (es ++ [{ key := k, val := x, born := 0 }]) (es' ++ [{ key := k, val := x', born := b }])
  | [], [], _ => ⟨rfl, hk, hx, trivial⟩
  | _ :: _, _ :: _, ⟨h1, h2, h3, h4⟩ => ⟨h1, h2, h3, ERel.snoc hk hx h4⟩
  | [], _ :: _, h => h.elim
  | _ :: _, [], h => h.elim

theorem checkKey_run {t : TypeId} {d : TypeDesc} (hu : P.underlying t = some d) (hk : keyKind d = true) (e : Bool) (n : Nat) (v : Value) :
    (Instr.checkKey e (n + 1) t v).run P w = .ok () w := by
  simp only [Instr.checkKey, Sem.run_bind, run_und w hu, Result.andThen_ok]
  cases d <;> first | rfl | (simp [keyKind] at hk)

theorem getMap_run {r : Nat} {es : Array MapEntry} {k : Nat} (h : w.heap[r]? = some (.map es k)) : (getObj r).run P w = .ok (.map es k) w := by
  simp [getObj, Sem.run, h]

theorem dLookup_ok (hR : Rel P base m M w) {t : TypeId} {x x' k k' r : Value} {ok : Bool} (hx : VRel m x x') (hk : VRel m k k') (h : dLookup P t x k ok M = some r) :
    ∃ r', (Instr.lookup t x' k' ok).run P w = .ok r' w ∧ VRel m r r' := by
  unfold dLookup at h
  try simp only [pund_eq] at h
  split at h
  · rename_i key elem b hu
    cases hx with
    | map hL =>
      rename_i L
      split at h
      · rename_i es d hg hd
        simp only [cond_eq_ite, Bool.and_eq_true] at h
        split at h
        · rename_i hc
          have hkk := flat_eq hc.2 hk
          subst hkk
          obtain ⟨es', clock, hh, he, _⟩ := hR.obj b L _ hL hg
          obtain ⟨hf1, hf2⟩ := findNow_rel d k' es es'.toList 0 he
          have hck := checkKey_run (P := P) (w := w) hd hc.1 es'.isEmpty 9999 k'
          split at h
          · rename_i j v hfn
            obtain ⟨v', hfn', hv⟩ := hf2 _ _ hfn
            refine ⟨_, ?_, taHold_ok hv h⟩
            simp [Instr.lookup, run_und w hu, getMap_run hh, hck, Instr.findKey, run_und w hd, hfn']
          · rename_i hfn
            have hfn' := hf1 hfn
            split at h
            · rename_i z hz
              cases h
              refine ⟨if ok then .tuple #[z, .bool false] else z, ?_, ?_⟩
              · simp [Instr.lookup, run_und w hu, getMap_run hh, hck, Instr.findKey, run_und w hd, hfn', run_zero w hz]
              · cases ok with
                | true => exact .tuple (.cons (flat_rel (zeroOf_flat hz)) (.cons (.bool _) .nil))
                | false => exact flat_rel (zeroOf_flat hz)
            · cases h
          · cases h
        · cases h
      · cases h
  · cases h

theorem setMap_run {r : Nat} {es : Array MapEntry} {k : Nat} (o : Obj) (h : w.heap[r]? = some (.map es k)) :
    (setObj r o).run P w = .ok () { w with heap := w.heap.setIfInBounds r o } := by
  simp [setObj, Sem.run, h]

theorem putMap (hR : Rel P base m M w) {b : Nat} {L : Loc} {es0 es : List MapEntry} {es0' : Array MapEntry} {k0 k : Nat} (es' : Array MapEntry) (hL : m b = some L) (hg : M.get b = some (.map es0))
    (hh : w.heap[L.block]? = some (.map es0' k0)) (he : ERel m es es'.toList) :
    Rel P base m (M.put b (.map es)) { w with heap := w.heap.setIfInBounds L.block (.map es' k) } ∧ Fr base m m M (M.put b (.map es)) w { w with heap := w.heap.setIfInBounds L.block (.map es' k) } := by
  have hown : M.own b := ⟨_, hg, rfl⟩
  have hbase := hR.base_le hL hown
  have hlt := lt_of_heap hh
  have hw : ∀ B, B ≠ L.block → (w.heap.setIfInBounds L.block (Obj.map es' k))[B]? = w.heap[B]? := fun B hB => by
    rw [Array.getElem?_setIfInBounds, if_neg (Ne.symm hB)]
  refine ⟨hR.put hL hown (by simp) hw ⟨es', k, by simp [hlt], he, hbase⟩, Fr.put (w' := { w with heap := w.heap.setIfInBounds L.block (.map es' k) }) hR hL hown rfl rfl rfl (by simp) hw _⟩

theorem dMapUpdate_ok (hR : Rel P base m M w) {t : TypeId} {x x' k k' v v' : Value} {M' : Mem} (hx : VRel m x x') (hk : VRel m k k') (hv : VRel m v v')
    (h : dMapUpdate P t x k v M = some M') : UOK P base m M w (Instr.mapUpdate t x' k' v') M' := by
  unfold dMapUpdate at h
  try simp only [pund_eq] at h
  split at h
  · rename_i key elem b hu
    cases hx with
    | map hL =>
      rename_i L
      split at h
      · rename_i es d hg hd
        simp only [cond_eq_ite, Bool.and_eq_true] at h
        split at h
        · rename_i hc
          have hkk := flat_eq hc.2 hk
          subst hkk
          obtain ⟨es', clock, hh, he, _⟩ := hR.obj b L _ hL hg
          obtain ⟨hf1, hf2⟩ := findNow_rel d k' es es'.toList 0 he
          have hck := checkKey_run (P := P) (w := w) hd hc.1 false 9999 k'
          split at h
          · rename_i i v0 hfn
            obtain ⟨v0', hfn', _⟩ := hf2 _ _ hfn
            split at h
            · rename_i hsb
              cases h
              have hkey : (es'[i]?).map (·.key) = (es[i]?).map (·.key) := by
                have := he.key_at i
                rwa [Array.getElem?_toList] at this
              have hme := he.modify hc.2 hv i
              rw [← Array.toList_modify] at hme
              obtain ⟨h1, h2⟩ := putMap hR (k := clock) (es'.modify i fun e => { e with key := k', val := v' }) hL hg hh hme
              refine ⟨m, _, ?_, h1, h2⟩
              rw [← hkey] at hsb
              have hkts : (Instr.keyThatStays (((es'[i]?).map (·.key)).getD k') k').run P w = .ok k' w := by simp [Instr.keyThatStays, hsb]
              simp only [Instr.mapUpdate, Sem.run_bind, run_und w hu, Result.andThen_ok, getMap_run hh, hck, Instr.findKey, run_und w hd, hfn', Sem.run_pure, hkts, setMap_run _ hh]
            · cases h
          · rename_i hfn
            have hfn' := hf1 hfn
            cases h
            have hsn : ERel m (es ++ [{ key := k', val := v, born := 0 }]) (es'.push { key := k', val := v', born := clock }).toList := by
              rw [Array.toList_push]; exact he.snoc hc.2 hv
            obtain ⟨h1, h2⟩ := putMap hR (k := clock + 1) (es'.push { key := k', val := v', born := clock }) hL hg hh hsn
            refine ⟨m, _, ?_, h1, h2⟩
            simp only [Instr.mapUpdate, Sem.run_bind, run_und w hu, Result.andThen_ok, getMap_run hh, hck, Instr.findKey, run_und w hd, hfn', Sem.run_pure, setMap_run _ hh]
          · cases h
        · cases h
      · cases h
  · cases h

theorem makeMap_ok (hR : Rel P base m M w) {t : TypeId} {b : Nat} {M' : Mem} (h : M.new (.map []) = some (b, M')) :
    VOK P base m M w (Instr.makeMap t none) (.map (some b)) M' := by
  let L : Loc := ⟨w.heap.size, 0, 0⟩
  have hw : ∀ B, B < w.heap.size → (w.heap.push (Obj.map #[] 0))[B]? = w.heap[B]? := by
    intro B hB; rw [Array.getElem?_push, if_neg (by omega)]
  obtain ⟨hn, hR'⟩ := Rel.made (w' := { w with heap := w.heap.push (.map #[] 0) }) (L := L) hR h (Nat.le_refl _) (by simp [L]) (by simp) hw
    ⟨#[], 0, by simp [L], trivial, hR.base⟩
  refine ⟨_, _, .map (some w.heap.size), ?_, ?_, hR', Fr.made hR h hn rfl rfl rfl (Nat.le_refl _) (by simp) hw⟩
  · simp [Instr.makeMap]
  · exact VRel.map (m := m.set b L) (Inj.set_same m b L)

theorem dLen_ok (hR : Rel P base m M w) {t : TypeId} {ts : Array TypeId} {ty : TypeId} {x x' r : Value} (ht : ts[0]? = some t) (hx : VRel m x x') (h : dLen P t x M = some r) :
    ∃ r', (Builtin.len_ ts ty #[x']).run P w = .ok r' w ∧ VRel m r r' := by
  unfold dLen at h
  try simp only [pund_eq] at h
  split at h
  · rename_i s hu
    cases h; cases hx
    exact ⟨_, by simp [Builtin.len_, ht, run_und w hu, goInt], .int _ _⟩
  · rename_i hu
    cases h
    cases hx <;> exact ⟨_, by simp [Builtin.len_, ht, run_und w hu, goInt], .int _ _⟩
  · rename_i b hu
    cases h
    cases hx with
    | symS c hL => exact ⟨_, by simp [Builtin.len_, ht, run_und w hu, goInt], .symL hL⟩
    | symE a c hL he =>
      have := VRel.symL (m := m) hL
      rw [he] at this
      exact ⟨_, by simp [Builtin.len_, ht, run_und w hu, goInt], this⟩
  · rename_i hu
    cases h
    exact ⟨_, by simp [Builtin.len_, ht, run_und w hu, goInt], .int _ _⟩
  · rename_i hu
    cases h; cases hx
    exact ⟨_, by simp [Builtin.len_, ht, run_und w hu, goInt], .int _ _⟩
  · rename_i b hu
    cases hx with
    | map hL =>
      rename_i L
      split at h
      · rename_i es hg
        cases h
        obtain ⟨es', clock, hh, he, _⟩ := hR.obj b L _ hL hg
        have hl := he.length
        rw [Array.length_toList] at hl
        refine ⟨.int .i64 es'.size, by simp [Builtin.len_, ht, run_und w hu, getMap_run hh, goInt], ?_⟩
        rw [hl]; exact .int _ _
      · cases h
  · cases h

theorem dCap_ok (hR : Rel P base m M w) {t : TypeId} {ts : Array TypeId} {ty : TypeId} {x x' r : Value} (ht : ts[0]? = some t) (hx : VRel m x x') (h : dCap P t x M = some r) :
    ∃ r', (Builtin.cap_ ts ty #[x']).run P w = .ok r' w ∧ VRel m r r' := by
  unfold dCap at h
  try simp only [pund_eq] at h
  split at h
  · rename_i hu
    cases h; cases hx
    exact ⟨_, by simp [Builtin.cap_, ht, run_und w hu, goInt], .int _ _⟩
  · rename_i b o l c hu
    cases hx with
    | slice hL =>
      rename_i L
      simp only [cond_eq_ite] at h
      split at h
      · rename_i hex
        cases h
        have he := exact_spec hR hL hex
        rw [he]
        exact ⟨_, by simp [Builtin.cap_, ht, run_und w hu, goInt], .int _ _⟩
      · cases h
  · cases h

/-! ### comparisons -/
theorem dRefEq_ok (_hR : Rel P base m M w) {t : TypeId} {x x' y y' : Value} {q : Bool} (hx : VRel m x x') (hy : VRel m y y') (h : dRefEq P t x y M = some q) (d : Nat) :
    (Op.equalIn (d + 1) t x' y').run P w = .ok q w := by
  unfold dRefEq at h
  try simp only [pund_eq] at h
  split at h
  · rename_i hu; cases h; cases hx; cases hy; simp [Op.equalIn, run_und w hu]
  · rename_i hu; cases h; cases hy; cases hx; simp [Op.equalIn, run_und w hu]
  · rename_i elem b o b' o' hu
    obtain ⟨L, hL, rfl⟩ := hx.ptr_inv
    obtain ⟨L', hL', rfl⟩ := hy.ptr_inv
    split at h
    · rename_i k _ _ _ _ _ hs hg
      simp only [cond_eq_ite, Nat.beq_eq] at h
      split at h
      · rename_i hbb
        subst hbb
        rw [hL] at hL'; cases hL'
        cases h
        have : (({ block := L.block, off := L.off + o, spot := none } : Addr) == { block := L.block, off := L.off + o', spot := none }) = Nat.beq o o' := by
          rw [Bool.eq_iff_iff]; simp
        simp [Op.equalIn, run_und w hu, run_size w hs, sameAddr, this]
      · cases h
    · cases h
  · rename_i hu; cases h; cases hx; cases hy; simp [Op.equalIn, run_und w hu]
  · rename_i hu; cases h; cases hx; cases hy; simp [Op.equalIn, run_und w hu]
  · rename_i a va b vb hu
    simp only [cond_eq_ite, Nat.beq_eq] at h
    split at h
    · cases h
    · rename_i hab
      cases h; cases hx; cases hy
      simp [Op.equalIn, run_und w hu, hab]
  · rename_i hu; cases h; cases hy; cases hx; simp [Op.equalIn, run_und w hu]
  · rename_i hu; cases h; cases hx; cases hy; simp [Op.equalIn, run_und w hu]
  · rename_i hu; cases h; cases hy; cases hx; simp [Op.equalIn, run_und w hu]
  · rename_i hu; cases h; cases hx; cases hy; simp [Op.equalIn, run_und w hu]
  · rename_i hu; cases h; cases hy; cases hx; simp [Op.equalIn, run_und w hu]
  · rename_i hu; cases h; cases hx; cases hy; simp [Op.equalIn, run_und w hu]
  · cases h

theorem refEq_guard {op : BinOp} {t : TypeId} {xo yo : Operand} {x x' y y' : Value} {q : Bool} (hx : VRel m x x') (hy : VRel m y y') (h : dRefEq P t x y M = some q) :
    (eqGuard op t xo yo x' y').run P w = .ok () w := by
  unfold dRefEq at h
  try simp only [pund_eq] at h
  unfold eqGuard
  split at h <;> first
    | (cases h; done)
    | (cases hx; cases hy; simp only [Sem.run_ite]; cases op <;> simp)

theorem refEq_binOp {t : TypeId} {x x' y y' : Value} {q : Bool} (hx : VRel m x x') (hy : VRel m y y') (h : dRefEq P t x y M = some q) :
    binOp .eql t x' y' = (do pure (.bool (← Op.equal t x' y'))) ∧ binOp .neq t x' y' = (do pure (.bool (!(← Op.equal t x' y')))) := by
  unfold dRefEq at h
  try simp only [pund_eq] at h
  split at h <;> first
    | (cases h; done)
    | (cases hx; cases hy; exact ⟨rfl, rfl⟩)

theorem i64ish_rel {x x' : Value} (h : i64ish x = true) (hx : VRel m x x') : ∃ n, x' = .int .i64 n := by
  cases hx <;> first
    | exact ⟨_, rfl⟩
    | (rename_i k n; cases k <;> first | exact ⟨_, rfl⟩ | (cases h; done))
    | (cases h; done)
theorem lss_run {op : BinOp} {t : TypeId} {xo yo : Operand} {a b : Int} (ho : op = .lss) : (do eqGuard op t xo yo (.int .i64 a) (.int .i64 b); binOp op t (.int .i64 a) (.int .i64 b) : Sem Value).run P w = .ok (.bool (decide (a < b))) w := by
  subst ho; simp [eqGuard, binOp, Op.intCmp]
theorem dLss_ok {op : BinOp} {t : TypeId} {xo yo : Operand} {x x' y y' v : Value} (ho : op = .lss) (hx : VRel m x x') (hy : VRel m y y') (h : dLss x y = some v) :
    ∃ v', (do eqGuard op t xo yo x' y'; binOp op t x' y' : Sem Value).run P w = .ok v' w ∧ VRel m v v' := by
  unfold dLss at h
  split at h
  case h_2 => cases h
  rename_i c lo hi
  cases hx
  cases hy with
  | aint _ _ n hn =>
    refine ⟨_, lss_run ho, ?_⟩
    simp only [cond_eq_ite, Bool.and_eq_true, Nat.ble_eq, Nat.blt_eq] at h
    split at h
    · rename_i hc
      cases h
      have : decide (Int.ofNat c < n) = true := decide_eq_true (by simp only [Int.ofNat_eq_natCast]; omega)
      rw [this]; exact .bool _
    · split at h
      · rename_i hc
        cases h
        have : decide (Int.ofNat c < n) = false := decide_eq_false (by simp only [Int.ofNat_eq_natCast]; omega)
        rw [this]; exact .bool _
      · cases h
theorem aint_add {op : BinOp} {t : TypeId} {xo yo : Operand} {x x' y y' : Value} (h1 : i64ish x = true) (h2 : i64ish y = true) (hx : VRel m x x') (hy : VRel m y y') (ho : op = .add) :
    ∃ v', (do eqGuard op t xo yo x' y'; binOp op t x' y' : Sem Value).run P w = .ok v' w ∧ VRel m (dAint x y) v' := by
  obtain ⟨a, rfl⟩ := i64ish_rel h1 hx
  obtain ⟨b, rfl⟩ := i64ish_rel h2 hy
  subst ho
  refine ⟨.int .i64 (IntKind.i64.wrap (a + b)), by simp [eqGuard, binOp, Op.intArith], ?_⟩
  unfold dAint
  split
  · rename_i c lo hi
    simp only [cond_eq_ite, Bool.and_eq_true, Nat.ble_eq]
    split
    · rename_i hc
      cases hx
      cases hy with
      | aint _ _ _ hn =>
        have hw : IntKind.i64.wrap (Int.ofNat c + b) = Int.ofNat c + b := IntWalk.i64_in _ (by simp only [Int.ofNat_eq_natCast]; omega)
        rw [hw]
        exact .aint _ _ _ (.inr (by simp only [Int.ofNat_eq_natCast]; omega))
    · exact .aint _ _ _ (.inl rfl)
  · exact .aint _ _ _ (.inl rfl)
theorem aint_sub {op : BinOp} {t : TypeId} {xo yo : Operand} {x x' y y' : Value} (h1 : i64ish x = true) (h2 : i64ish y = true) (hx : VRel m x x') (hy : VRel m y y') (ho : op = .sub) :
    ∃ v', (do eqGuard op t xo yo x' y'; binOp op t x' y' : Sem Value).run P w = .ok v' w ∧ VRel m aintV v' := by
  obtain ⟨a, rfl⟩ := i64ish_rel h1 hx
  obtain ⟨b, rfl⟩ := i64ish_rel h2 hy
  subst ho
  exact ⟨.int .i64 (IntKind.i64.wrap (a - b)), by simp [eqGuard, binOp, Op.intArith], .aint _ _ _ (.inl rfl)⟩

theorem symEq_rel {x x' y y' : Value} (h : symEq x y = true) (hx : VRel m x x') (hy : VRel m y y') : ∃ n : Int, x' = .int .u64 n ∧ y' = .int .u64 n := by
  unfold symEq at h
  split at h
  · have hb := Nat.eq_of_beq_eq_true h
    subst hb
    cases hx with
    | sym h1 =>
      cases hy with
      | sym h2 =>
        rw [h1] at h2; cases h2
        exact ⟨_, rfl, rfl⟩
  · cases h
theorem dBinOp_ok (hR : Rel P base m M w) {op : BinOp} {t : TypeId} {xo yo : Operand} {x x' y y' v : Value} (hx : VRel m x x') (hy : VRel m y y')
    (h : dBinOp P op t xo yo x y M = some v) :
    ∃ v', (do eqGuard op t xo yo x' y'; binOp op t x' y' : Sem Value).run P w = .ok v' w ∧ VRel m v v' := by
  unfold dBinOp at h
  try simp only [pinfo_eq, pund_eq, pfn_eq] at h
  simp only [cond_eq_ite, Bool.and_eq_true] at h
  split at h
  · rename_i hf
    have e1 := flat_eq hf.1 hx
    have e2 := flat_eq hf.2 hy
    subst e1; subst e2
    split at h
    · rename_i v0 hp
      split at h
      · rename_i hfv
        cases h
        exact ⟨v, prun_run hp w, flat_rel hfv⟩
      · cases h
    · cases h
  · split at h
    · split at h
      · rename_i hs
        cases h
        obtain ⟨n, rfl, rfl⟩ := symEq_rel hs hx hy
        exact ⟨.bool true, by simp [eqGuard, binOp, Op.intCmp], .bool _⟩
      cases hq : dRefEq P t x y M with
      | none => simp [hq] at h
      | some q =>
        rw [hq] at h; cases h
        refine ⟨.bool q, ?_, .bool _⟩
        rw [Sem.run_bind, refEq_guard hx hy hq, Result.andThen_ok, (refEq_binOp hx hy hq).1]
        simp [Op.equal, show Op.maxDepth = 9999 + 1 from rfl, dRefEq_ok hR hx hy hq]
    · split at h
      · rename_i hs
        cases h
        obtain ⟨n, rfl, rfl⟩ := symEq_rel hs hx hy
        exact ⟨.bool false, by simp [eqGuard, binOp, Op.intCmp], .bool _⟩
      cases hq : dRefEq P t x y M with
      | none => simp [hq] at h
      | some q =>
        rw [hq] at h; cases h
        refine ⟨.bool !q, ?_, .bool _⟩
        rw [Sem.run_bind, refEq_guard hx hy hq, Result.andThen_ok, (refEq_binOp hx hy hq).2]
        simp [Op.equal, show Op.maxDepth = 9999 + 1 from rfl, dRefEq_ok hR hx hy hq]
    · split at h
      · rename_i hc
        cases h
        exact aint_add hc.1 hc.2 hx hy rfl
      · cases h
    · split at h
      · rename_i hc
        cases h
        exact aint_sub hc.1 hc.2 hx hy rfl
      · cases h
    · exact dLss_ok rfl hx hy h
    · cases h

theorem dGeneric_ok (hR : Rel P base m M w) {o : Oper} {ρ ρ' : Operand → Value} {v : Value} (hs : ∀ cs b, o.op ≠ .select cs b)
    (hρ : ∀ x ∈ o.op.operands, VRel m (ρ x) (ρ' x)) (h : dGeneric P o ρ = some v) : OpOK P base m M w (execOp ρ' o) M (.val v) := by
  unfold dGeneric at h
  try simp only [pinfo_eq, pund_eq, pfn_eq] at h
  simp only [cond_eq_ite] at h
  split at h
  · rename_i hf
    have heq : execOp ρ' o = execOp ρ o := execOp_congr o hs fun x hx => flat_eq (by
      rw [List.all_eq_true] at hf; exact hf x (by simpa using hx)) (hρ x hx)
    split at h
    · rename_i v0 hp
      split at h
      · rename_i hfv
        cases h
        rw [heq]
        exact ⟨m, w, .value v, prun_run hp w, flat_rel hfv, hR, Fr.refl _ _ _ _⟩
      · cases h
    · cases h
  · cases h
end
end
end Go.Ab
