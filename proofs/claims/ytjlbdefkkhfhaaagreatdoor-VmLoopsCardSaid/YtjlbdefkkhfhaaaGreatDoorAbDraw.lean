/- Regions that draw their order: in whatever order the region's operations are done, the outcome is what the abstract machine found. -/
import Derived.Test.YtjlbdefkkhfhaaaGreatDoorAbRun2
import Derived.Test.YtjlbdefkkhfhaaaGreatDoorAbDrawDef
namespace Go.Ab
open Go

/-! ## equal values -/
theorem all2_eq {f : Value → Value → Bool} (hf : ∀ a b, f a b = true → a = b) : ∀ l k : List Value, all2 f l k = true → l = k
  | [], [], _ => rfl
  | a :: l, b :: k, h => by
    simp only [all2, Bool.and_eq_true] at h
    rw [hf a b h.1, all2_eq hf l k h.2]
  | [], _ :: _, h => by simp [all2] at h
  | _ :: _, [], h => by simp [all2] at h
theorem veqN_eq : ∀ (n : Nat) (a b : Value), veqN n a b = true → a = b
  | 0, _, _, h => by simp [veqN] at h
  | n + 1, a, b, h => by
    have ih := veqN_eq n
    unfold veqN at h
    try simp only [pinfo_eq, pund_eq, pfn_eq] at h
    split at h
    all_goals first
      | rfl
      | (cases h; done)
      | (simp only [beq_iff_eq] at h; rw [h])
      | (simp only [Bool.and_eq_true, decide_eq_true_eq] at h; rw [h.1, h.2])
      | (simp only [decide_eq_true_eq] at h; rw [h])
      | (simp only [Bool.and_eq_true, decide_eq_true_eq, Nat.beq_eq] at h; rw [h.1.1, h.1.2, h.2])
      | (simp only [Bool.and_eq_true, Nat.beq_eq] at h; rw [h.1, h.2])
      | (simp only [Bool.and_eq_true, Nat.beq_eq] at h; rw [h.1, ih _ _ h.2])
      | (rw [Array.toList_inj.1 (all2_eq ih _ _ h)])
      | (simp only [Bool.and_eq_true, decide_eq_true_eq] at h; rw [h.1.1, Array.toList_inj.1 (all2_eq ih _ _ h.1.2), Array.toList_inj.1 (all2_eq ih _ _ h.2)])

section
variable {P : Program} {base : Nat}

/-! ## what reads leaves the memory -/
theorem reader_spec {o : Oper} (hk : kindOf o = 0) {ρ : Operand → Value} {M M' : Mem} {r : R} (h : dOp P o ρ M = some (r, M')) : M' = M ∧ ∃ v, r = .val v := by
  unfold kindOf at hk
  unfold dOp at h
  try simp only [pund_eq] at h
  split at hk
  all_goals first
    | (rename_i ho; simp only [ho] at h; obtain ⟨v, _, rfl, rfl⟩ := val_some h; exact ⟨rfl, v, rfl⟩)
    | (rename_i ho; simp only [ho] at h; cases h; exact ⟨rfl, _, rfl⟩)
    | (rename_i ho; simp only [ho] at h; split at h <;> first | (cases h; exact ⟨rfl, _, rfl⟩) | (cases h; done) | (split at h <;> first | (cases h; exact ⟨rfl, _, rfl⟩) | (cases h; done)))
    | (cases hk; done)
    | skip
  rename_i c ho
  simp only [ho] at h
  split at hk
  · rename_i hc
    simp only [dCallOp, hc] at h
    split at h
    · rename_i r0 hb
      cases h
      unfold dBuiltin at hb
      try simp only [pinfo_eq, pund_eq, pfn_eq] at hb
      split at hb
      all_goals first
        | (rename_i hbb _ _; cases hbb; done)
        | (rename_i hbb; cases hbb; done)
        | (rename_i hbb _ _ _; cases hbb; done)
        | (rename_i hbb _; cases hbb; done)
        | (obtain ⟨v, _, rfl, rfl⟩ := val_some hb; exact ⟨rfl, v, rfl⟩)
        | (cases hb; done)
        | skip
    · obtain ⟨v, _, rfl, rfl⟩ := val_some h
      exact ⟨rfl, v, rfl⟩
  · rename_i hc
    simp only [dCallOp, hc] at h
    split at h
    · rename_i r0 hb
      cases h
      unfold dBuiltin at hb
      try simp only [pinfo_eq, pund_eq, pfn_eq] at hb
      split at hb
      all_goals first
        | (rename_i hbb _ _; cases hbb; done)
        | (rename_i hbb; cases hbb; done)
        | (rename_i hbb _ _ _; cases hbb; done)
        | (rename_i hbb _; cases hbb; done)
        | (obtain ⟨v, _, rfl, rfl⟩ := val_some hb; exact ⟨rfl, v, rfl⟩)
        | (cases hb; done)
        | skip
    · obtain ⟨v, _, rfl, rfl⟩ := val_some h
      exact ⟨rfl, v, rfl⟩
  · cases hk

theorem pure_spec {o : Oper} {ρ : Operand → Value} (hp : pureAt o ρ = true) {M0 : Mem} {v : Value} (h : dOp P o ρ M0 = some (.val v, M0)) (M : Mem) : dOp P o ρ M = some (.val v, M) := by
  unfold pureAt at hp
  unfold dOp at h ⊢
  split at hp
  all_goals first
    | (rename_i ho; simp only [ho] at h ⊢; obtain ⟨v', h1, h2, _⟩ := val_some h; rw [h1]; cases h2; rfl)
    | (rename_i ho; simp only [ho] at h ⊢; cases h; rfl)
    | (cases hp; done)
    | skip
  all_goals first
    | (rename_i ho; simp only [ho] at h ⊢; split at h <;> first | (cases h; done) | (cases h; rfl) | (split at h <;> first | (cases h; done) | (cases h; rfl)))
    | skip
  rename_i op t x y z ho
  simp only [ho] at h ⊢
  obtain ⟨v', h1, h2, _⟩ := val_some h
  cases h2
  unfold dBinOp at h1 ⊢
  simp only [hp, cond_true] at h1 ⊢
  rw [h1]; rfl

/-! ## what makes a block -/
structure Made (P : Program) (o : Oper) (ρ : Operand → Value) (v : Value) (b : Nat) (cs : List Value) (es : Nat) : Prop where
  run : ∀ {m : Inj} {w : World} {ρ' : Operand → Value}, (∀ x ∈ o.op.operands, VRel m (ρ x) (ρ' x)) → ∃ cs' e v', VsRel m cs cs' ∧ (∀ t, es = t + 1 → e = t) ∧
    (execOp ρ' o).run P w = .ok (.value v') { w with heap := w.heap.push (.cells cs'.toArray e) } ∧ ∀ m' : Inj, m.le m' → m' b = some ⟨w.heap.size, 0, 0⟩ → VRel m' v v'

theorem new_get {cs : List Value} {es b : Nat} {M M' : Mem} (h : dNew cs es false M = some (b, M')) :
    b = M.next ∧ M'.next = M.next + 1 ∧ M'.get b = some (.cells cs es false false false) ∧ ∀ x, x ≠ b → M'.get x = M.get x := by
  obtain ⟨h1, h2, _, h3, h4⟩ := Mem.new_spec h
  exact ⟨h1, h2, h3, h4⟩

theorem maker_spec {o : Oper} (hk : kindOf o = 1) {ρ : Operand → Value} {M M' : Mem} {r : R} (h : dOp P o ρ M = some (r, M')) :
    ∃ v cs es, r = .val v ∧ dNew cs es false M = some (M.next, M') ∧ Made P o ρ v M.next cs es := by
  have hb : ∀ {cs : List Value} {es b : Nat} {M1 : Mem}, dNew cs es false M = some (b, M1) → b = M.next := fun h => (Mem.new_spec h).1
  unfold kindOf at hk
  split at hk
  all_goals first | (cases hk; done) | skip
  · rename_i c ho
    split at hk <;> cases hk
  · rename_i t ho
    simp only [dOp, ho] at h
    obtain ⟨v, hv, rfl⟩ := valM_some h
    unfold dAlloc at hv
    try simp only [pinfo_eq, pund_eq, pfn_eq] at hv
    split at hv
    · rename_i z hz
      split at hv
      · rename_i b M1 hn
        cases hv
        have := hb hn
        subst this
        refine ⟨_, _, _, rfl, hn, ⟨fun {m w ρ'} _ => ⟨z.cells.toList, t, .pointer (some ⟨w.heap.size, 0, none⟩), (flat_rel (zeroOf_flat hz)).cells, (fun _ h => Nat.succ.inj h), ?_, fun m' _ hm' => ?_⟩⟩⟩
        · simp [execOp, ho, Instr.alloc, run_zero w hz, newVar, newRow]
        · exact VRel.ptr (o := 0) hm'
      · cases hv
    · cases hv
  · rename_i t x ho
    simp only [dOp, ho] at h
    obtain ⟨v, hv, rfl⟩ := valM_some h
    unfold dBox at hv
    try simp only [pinfo_eq, pund_eq, pfn_eq] at hv
    split at hv
    · rename_i b M1 hn
      cases hv
      have := hb hn
      subst this
      refine ⟨_, _, _, rfl, hn, ⟨fun {m w ρ'} hρ => ⟨(ρ' x).cells.toList, t, .pointer (some ⟨w.heap.size, 0, none⟩), ?_, (fun _ h => Nat.succ.inj h), ?_, fun m' _ hm' => ?_⟩⟩⟩
      · rw [ho] at hρ
        exact (hρ x (by simp [Op.operands])).cells
      · simp [execOp, ho, Instr.box, newVar, newRow]
      · exact VRel.ptr (o := 0) hm'
    · cases hv
  · rename_i t len parts ho
    simp only [dOp, ho] at h
    obtain ⟨v, hv, rfl⟩ := valM_some h
    unfold dBuildSlice at hv
    try simp only [pund_eq] at hv
    split at hv
    · rename_i elem hu
      split at hv
      · rename_i n z hn hz
        simp only [cond_eq_ite, Bool.and_eq_true, Nat.beq_eq, Nat.ble_eq] at hv
        split at hv
        · rename_i hcond
          split at hv
          · rename_i cs hf
            split at hv
            · rename_i b M1 hnew
              cases hv
              have := hb hnew
              subst this
              refine ⟨_, _, _, rfl, hnew, ⟨fun {m w ρ'} hρ => ?_⟩⟩
              rw [ho] at hρ
              have hp := pairs_rel (ps := parts) (m := m) hρ
              have hzr := (flat_rel (m := m) (zeroOf_flat hz)).cells
              have hzz : VsRel m (zeroRow z.cells.toList (len * n)) (zeroRow z.cells.toList (len * n)) := zeroRow_rel hzr _ fun hne he => by
                rw [he] at hcond
                simp only [List.length_nil] at hcond
                apply hne; rw [← hcond.2]; simp
              have hpe : (parts.map fun (i, x) => (i, ρ' x)).toList = pairs ρ' parts := pairs_eq _ _
              by_cases h0 : len * n = 0
              · obtain ⟨cs', hfill, hrel⟩ := dFill_ok (cells' := #[]) (fun i => some (i * n, n)) hp (by rw [h0] at hzz; simpa [zeroRow] using hzz) (by rw [h0] at hf; simpa [zeroRow] using hf)
                refine ⟨cs'.toList, elem, .slice (some ⟨w.heap.size, 0, none⟩) len len, hrel, (fun _ h => Nat.succ.inj h), ?_, fun m' _ hm' => VRel.slice (o := 0) (l := len) (c := len) hm'⟩
                have hr0 : Array.range 0 = #[] := rfl
                simp [pairs] at hfill
                simp only [execOp, ho, Instr.buildSlice, Sem.run_bind, run_und w hu, run_size w hn, Result.andThen_ok, h0, hr0]
                simp [hfill, newRow]
              · obtain ⟨cs', hfill, hrel⟩ := dFill_ok (cells' := (Array.range (len * n)).map (fun i => z.cells[i % z.cells.size]!)) (fun i => some (i * n, n)) hp (by rw [zeroRow_eq]; exact hzz) hf
                refine ⟨cs'.toList, elem, .slice (some ⟨w.heap.size, 0, none⟩) len len, hrel, (fun _ h => Nat.succ.inj h), ?_, fun m' _ hm' => VRel.slice (o := 0) (l := len) (c := len) hm'⟩
                have hle : ¬ (len * n > 2 ^ 24) := by omega
                rw [← hpe] at hfill
                simp only [execOp, ho, Instr.buildSlice, Sem.run_bind, run_und w hu, run_size w hn, Result.andThen_ok, hle, if_false, h0, run_zero w hz, Sem.run_pure, hfill, newRow, run_newObj]
            · cases hv
          · cases hv
        · cases hv
      · cases hv
    · cases hv

/-- a block that the abstract memory has already is made in the world, too -/
theorem Rel.adopt {m : Inj} {M : Mem} {w : World} (hR : Rel P base m M w) {b : Nat} {cs cs' : List Value} {es : Nat} (e : TypeId) (hty : ∀ t, es = t + 1 → e = t) (hb : b < M.next) (hn : m b = none)
    (hg : M.get b = some (.cells cs es false false false)) (hc : VsRel m cs cs') :
    Rel P base (m.set b ⟨w.heap.size, 0, 0⟩) M { w with heap := w.heap.push (.cells cs'.toArray e) } := by
  have hle := Inj.le_set ⟨w.heap.size, 0, 0⟩ hn
  have hw : ∀ B, B < w.heap.size → (w.heap.push (Obj.cells cs'.toArray e))[B]? = w.heap[B]? := by
    intro B hB; rw [Array.getElem?_push, if_neg (by omega)]
  have hl := hc.length
  refine ⟨fun g hgl => hle _ _ (hR.low g hgl), ?_, ?_, ?_, ?_, Nat.le_trans hR.base (by simp), hR.small⟩
  · intro x Lx ox hx hgx
    by_cases hxb : x = b
    · subst hxb
      rw [Inj.set_same] at hx; cases hx
      rw [hg] at hgx; cases hgx
      refine ⟨cs'.toArray, e, (0, 0), by simp, ?_, ⟨fun _ => ⟨rfl, fun t ht => ⟨hty t ht, rfl, by simp; omega⟩⟩, fun h => by cases h⟩, (fun h => by cases h), fun _ => ⟨hR.base, by simp; omega, fun _ i _ => by simp⟩⟩
      have : seg cs'.toArray 0 cs.length = cs' := by simp [seg, ← hl]
      rw [this]; exact hc.mono hle
    · rw [Inj.set_ne _ _ hxb] at hx
      exact (hR.obj x Lx ox hx hgx).mono hle (hw _ (hR.live x Lx hx))
  · intro x y Lx Ly hx hy ox oy he
    by_cases hxb : x = b
    · by_cases hyb : y = b
      · rw [hxb, hyb]
      · subst hxb
        rw [Inj.set_same] at hx; cases hx
        rw [Inj.set_ne _ _ hyb] at hy
        have := hR.live y Ly hy
        simp only at he; omega
    · rw [Inj.set_ne _ _ hxb] at hx
      by_cases hyb : y = b
      · subst hyb
        rw [Inj.set_same] at hy; cases hy
        have := hR.live x Lx hx
        simp only at he; omega
      · rw [Inj.set_ne _ _ hyb] at hy
        exact hR.apart x y Lx Ly hx hy ox oy he
  · intro x Lx hx
    by_cases hxb : x = b
    · subst hxb; rw [Inj.set_same] at hx; cases hx; simp
    · rw [Inj.set_ne _ _ hxb] at hx; have := hR.live x Lx hx; simp; omega
  · intro x Lx hx
    by_cases hxb : x = b
    · omega
    · rw [Inj.set_ne _ _ hxb] at hx; exact hR.fresh x Lx hx

theorem Fr.adopt {m0 m : Inj} {M0 M : Mem} {w0 w : World} (hF : Fr base m0 m M0 M w0 w) {b : Nat} (hn : m b = none) (h0 : M0.next ≤ b) (hbase : base ≤ w.heap.size) (o : Obj) :
    Fr base m0 (m.set b ⟨w.heap.size, 0, 0⟩) M0 M w0 { w with heap := w.heap.push o } := by
  have hw : ∀ B, B < w.heap.size → (w.heap.push o)[B]? = w.heap[B]? := by
    intro B hB; rw [Array.getElem?_push, if_neg (by omega)]
  refine ⟨Inj.le_trans hF.le (Inj.le_set _ hn), hF.os, hF.tape, hF.output, Nat.le_trans hF.size (by simp), ?_, ?_, hF.next, hF.keepM, ?_⟩
  · intro B hB hm
    show (w.heap.push o)[B]? = _
    rw [hw B (Nat.lt_of_lt_of_le hB hF.size)]
    exact hF.keep B hB hm
  · intro x Lx hx hx0
    by_cases hxb : x = b
    · subst hxb; rw [Inj.set_same] at hx; cases hx
      exact ⟨hbase, .inl hF.size⟩
    · rw [Inj.set_ne _ _ hxb] at hx; exact hF.new x Lx hx hx0
  · intro x Lx hx hx0
    by_cases hxb : x = b
    · omega
    · rw [Inj.set_ne _ _ hxb] at hx; exact hF.newid x Lx hx hx0

/-- the abstract memory has one block more, which the world has not yet -/
theorem Rel.grow {m : Inj} {M M' : Mem} {w : World} (hR : Rel P base m M w) {b : Nat} {o : AObj} (h : M.new o = some (b, M')) :
    m b = none ∧ Rel P base m M' w ∧ Fr base m m M M' w w := by
  obtain ⟨hb, hn, hlt, hg, hne⟩ := Mem.new_spec h
  have hnone : m b = none := by
    cases hmb : m b with
    | none => rfl
    | some L' => have := hR.fresh b L' hmb; omega
  have hget : ∀ x L, m x = some L → M'.get x = M.get x := fun x L hx => hne x (fun e => by rw [e, hnone] at hx; cases hx)
  refine ⟨hnone, ⟨hR.low, ?_, ?_, hR.live, fun x L hx => by have := hR.fresh x L hx; omega, hR.base, by omega⟩,
    ⟨Inj.le_refl m, rfl, rfl, rfl, Nat.le_refl _, fun _ _ _ => rfl, fun x L hx hx' => by simp [hx] at hx', by omega, fun x hx _ => hne x (by omega), fun x L hx hx' => by simp [hx] at hx'⟩⟩
  · intro x L ox hx hgx
    rw [hget x L hx] at hgx
    exact hR.obj x L ox hx hgx
  · intro x y Lx Ly hx hy ⟨ox, h1, h2⟩ ⟨oy, h3, h4⟩ he
    rw [hget x Lx hx] at h1
    rw [hget y Ly hy] at h3
    exact hR.apart x y Lx Ly hx hy ⟨ox, h1, h2⟩ ⟨oy, h3, h4⟩ he
end
end Go.Ab
