/- The relation between the abstract machine's values and memory and a world's: a memory injection. -/
import Derived.Test.YtjlbdefkkhfhaaaGreatDoorAbDef
import Derived.Laws.Sem
import Derived.Laws.Cells
import Derived.RowKit3
import Derived.Below
namespace Go.Ab
open Go

/-! ## trees -/
theorem Tr.get_nil {α : Type} (k : Nat) : (Tr.nil : Tr α).get k = none := rfl
theorem Tr.get_node0 {α : Type} (l : Tr α) (v : Option α) (r : Tr α) (k : Nat) :
    (Tr.node l v r).get k = bif Nat.beq k 0 then v else bif Nat.beq (k % 2) 1 then l.get (k / 2) else r.get (k / 2 - 1) := by
  show Bool.rec (motive := fun _ => Option α) (Bool.rec (motive := fun _ => Option α) (r.get (k / 2 - 1)) (l.get (k / 2)) (Nat.beq (k % 2) 1)) v (Nat.beq k 0) = _
  cases Nat.beq k 0 <;> cases Nat.beq (k % 2) 1 <;> rfl
theorem Tr.set_succ {α : Type} (n : Nat) (t : Tr α) (k : Nat) (a : α) : Tr.set (n + 1) t k a = bif Nat.beq k 0 then .node t.left (some a) t.right
    else bif Nat.beq (k % 2) 1 then .node (Tr.set n t.left (k / 2) a) t.val t.right else .node t.left t.val (Tr.set n t.right (k / 2 - 1) a) := by
  show Bool.rec (motive := fun _ => Tr α) (Bool.rec (motive := fun _ => Tr α) (.node t.left t.val (Tr.set n t.right (k / 2 - 1) a)) (.node (Tr.set n t.left (k / 2) a) t.val t.right) (Nat.beq (k % 2) 1))
    (.node t.left (some a) t.right) (Nat.beq k 0) = _
  cases Nat.beq k 0 <;> cases Nat.beq (k % 2) 1 <;> rfl
theorem Tr.get_node {α : Type} (l : Tr α) (v : Option α) (r : Tr α) (k : Nat) :
    (Tr.node l v r).get k = if k = 0 then v else if k % 2 = 1 then l.get (k / 2) else r.get (k / 2 - 1) := by
  simp only [Tr.get_node0, cond_eq_ite, Nat.beq_eq]
theorem Tr.get_eta {α : Type} (t : Tr α) (k : Nat) : (Tr.node t.left t.val t.right).get k = t.get k := by
  cases t with
  | nil => simp only [Tr.left, Tr.val, Tr.right, Tr.get_node, Tr.get_nil]; split <;> (try split) <;> rfl
  | node l v r => rfl
theorem Tr.get_set_same {α : Type} : ∀ (n : Nat) (t : Tr α) (k : Nat) (a : α), k + 1 < 2 ^ n → (Tr.set n t k a).get k = some a
  | 0, _, k, _, h => by simp at h
  | n + 1, t, k, a, h => by
    have hp : 2 ^ (n + 1) = 2 * 2 ^ n := by rw [Nat.pow_succ]; omega
    simp only [Tr.set_succ, cond_eq_ite, Nat.beq_eq]
    split
    · rename_i h0; subst h0; simp [Tr.get_node]
    · rename_i h0
      split
      · rename_i h1
        rw [Tr.get_node, if_neg h0, if_pos h1]
        exact Tr.get_set_same n _ _ _ (by omega)
      · rename_i h1
        rw [Tr.get_node, if_neg h0, if_neg h1]
        exact Tr.get_set_same n _ _ _ (by omega)
theorem Tr.get_set_ne {α : Type} : ∀ (n : Nat) (t : Tr α) (k j : Nat) (a : α), j ≠ k → (Tr.set n t k a).get j = t.get j
  | 0, _, _, _, _, _ => rfl
  | n + 1, t, k, j, a, h => by
    simp only [Tr.set_succ, cond_eq_ite, Nat.beq_eq]
    rw [← Tr.get_eta t j]
    split
    · rename_i h0
      simp only [Tr.get_node]
      have hj : ¬ j = 0 := by omega
      rw [if_neg hj, if_neg hj]
    · rename_i h0
      split
      · rename_i h1
        simp only [Tr.get_node]
        by_cases hj0 : j = 0
        · rw [if_pos hj0, if_pos hj0]
        · rw [if_neg hj0, if_neg hj0]
          by_cases hj1 : j % 2 = 1
          · rw [if_pos hj1, if_pos hj1]; exact Tr.get_set_ne n _ _ _ _ (by omega)
          · rw [if_neg hj1, if_neg hj1]
      · rename_i h1
        simp only [Tr.get_node]
        by_cases hj0 : j = 0
        · rw [if_pos hj0, if_pos hj0]
        · rw [if_neg hj0, if_neg hj0]
          by_cases hj1 : j % 2 = 1
          · rw [if_pos hj1, if_pos hj1]
          · rw [if_neg hj1, if_neg hj1]; exact Tr.get_set_ne n _ _ _ _ (by omega)

theorem trGo_get {α : Type} : ∀ (l : List α) (i : Nat) (t : Tr α) (k : Nat), i + l.length ≤ 4294967296 → (trGo l i t).get k = if i ≤ k ∧ k < i + l.length then l[k - i]? else t.get k
  | [], i, t, k, _ => by
    unfold trGo
    rw [if_neg (by simp only [List.length_nil]; omega)]
  | a :: l, i, t, k, h => by
    simp only [List.length_cons] at h
    unfold trGo
    rw [trGo_get l (i + 1) _ k (by omega)]
    by_cases hk : k = i
    · subst hk
      rw [if_neg (by omega), if_pos (by simp), Tr.get_set_same _ _ _ _ (by omega)]
      simp
    · by_cases hik : i + 1 ≤ k ∧ k < i + 1 + l.length
      · rw [if_pos hik, if_pos (by simp only [List.length_cons]; omega)]
        obtain ⟨j, rfl⟩ : ∃ j, k = i + 1 + j := ⟨k - (i + 1), by omega⟩
        have h1 : i + 1 + j - (i + 1) = j := by omega
        have h2 : i + 1 + j - i = j + 1 := by omega
        rw [h1, h2, List.getElem?_cons_succ]
      · rw [if_neg hik, if_neg (by simp only [List.length_cons]; omega), Tr.get_set_ne _ _ _ _ _ hk]

theorem pinfo_eq (P : Program) (t : TypeId) : pinfo P t = P.info? t := by
  unfold pinfo
  cases h : Nat.ble P.types.size 4294967296 with
  | false => rfl
  | true =>
    rw [Nat.ble_eq] at h
    rw [cond_true, typeTree, trGo_get _ _ _ _ (by simpa using h)]
    by_cases ht : t < P.types.size
    · rw [if_pos (by simpa using ht)]
      simp [Tables.info?, ht]
    · rw [if_neg (by simpa using ht), Tr.get_nil]
theorem pund_eq (P : Program) (t : TypeId) : pund P t = P.underlying t := by
  unfold pund Program.underlying
  rw [pinfo_eq]
  cases P.info? t with
  | none => rfl
  | some i =>
    obtain ⟨d⟩ := i
    cases d <;> first | rfl | (simp only [pinfo_eq])
theorem pfn_eq (P : Program) (f : FuncId) : pfn P f = P.funcs[f]? := by
  unfold pfn
  cases h : Nat.ble P.funcs.size 4294967296 with
  | false => rfl
  | true =>
    rw [Nat.ble_eq] at h
    rw [cond_true, funcTree, trGo_get _ _ _ _ (by simpa using h)]
    by_cases ht : f < P.funcs.size
    · rw [if_pos (by simpa using ht)]; simp
    · rw [if_neg (by simpa using ht), Tr.get_nil]
      simp [ht]


/-! ## injections -/
structure Loc where
  block : Nat
  off : Nat
  extra : Nat

abbrev Inj := Nat → Option Loc
def Inj.le (m m' : Inj) : Prop := ∀ b L, m b = some L → m' b = some L
theorem Inj.le_refl (m : Inj) : m.le m := fun _ _ h => h
theorem Inj.le_trans {m m' m'' : Inj} (h : m.le m') (h' : m'.le m'') : m.le m'' := fun b L hb => h' b L (h b L hb)

mutual
inductive VRel (m : Inj) : Value → Value → Prop
  | bool (b : Bool) : VRel m (.bool b) (.bool b)
  | int (k : IntKind) (n : Int) : VRel m (.int k n) (.int k n)
  | float (k : FloatKind) (n : Nat) : VRel m (.float k n) (.float k n)
  | any (y : Nat) {v' : Value} (h : plain1 v' = true) : VRel m (.complex .f64 0 y) v'
  | sym {b : Nat} {L : Loc} (h : m b = some L) : VRel m (.complex .f64 1 b) (.int .u64 (L.off : Int))
  | symL {b : Nat} {L : Loc} (h : m b = some L) : VRel m (.complex .f64 3 b) (.int .i64 (L.extra : Int))
  | symE {b : Nat} {L : Loc} (a : Option Addr) (c : Nat) (h : m b = some L) (he : L.extra = 0) : VRel m (.complex .f64 2 b) (.slice a 0 c)
  | symS {b : Nat} {L : Loc} (c : Nat) (h : m b = some L) : VRel m (.complex .f64 2 b) (.slice (some ⟨L.block, L.off, none⟩) L.extra c)
  | string (s : ByteArray) : VRel m (.string s) (.string s)
  | nilPtr : VRel m (.pointer none) (.pointer none)
  | ptr {b o : Nat} {L : Loc} (h : m b = some L) : VRel m (.pointer (some ⟨b, o, none⟩)) (.pointer (some ⟨L.block, L.off + o, none⟩))
  | nilSlice (l c : Nat) : VRel m (.slice none l c) (.slice none l c)
  | slice {b o l c : Nat} {L : Loc} (h : m b = some L) : VRel m (.slice (some ⟨b, o, none⟩) l c) (.slice (some ⟨L.block, L.off + o, none⟩) l (c + L.extra))
  | nilMap : VRel m (.map none) (.map none)
  | map {r : Nat} {L : Loc} (h : m r = some L) : VRel m (.map (some r)) (.map (some L.block))
  | nilChan : VRel m (.chan none) (.chan none)
  | chan {r : Nat} {L : Loc} (h : m r = some L) : VRel m (.chan (some r)) (.chan (some L.block))
  | aint (x y : Nat) (n : Int) (h : y = 0 ∨ (x : Int) ≤ n ∧ n < (y : Int)) : VRel m (.complex .f32 x y) (.int .i64 n)
  | func {fn : Fn} {a a' c c' : Array Value} (ha : VsRel m a.toList a'.toList) (hc : VsRel m c.toList c'.toList) : VRel m (.func fn a c) (.func fn a' c')
  | nilFunc : VRel m .nilFunc .nilFunc
  | iface {t : TypeId} {v v' : Value} (h : VRel m v v') : VRel m (.iface t v) (.iface t v')
  | nilIface : VRel m .nilIface .nilIface
  | agg {c c' : Array Value} (h : VsRel m c.toList c'.toList) : VRel m (.agg c) (.agg c')
  | tuple {c c' : Array Value} (h : VsRel m c.toList c'.toList) : VRel m (.tuple c) (.tuple c')
inductive VsRel (m : Inj) : List Value → List Value → Prop
  | nil : VsRel m [] []
  | cons {v v' : Value} {l l' : List Value} (h : VRel m v v') (hs : VsRel m l l') : VsRel m (v :: l) (v' :: l')
end

mutual
theorem VRel.mono {m m' : Inj} (hm : m.le m') : ∀ {v v' : Value}, VRel m v v' → VRel m' v v'
  | _, _, .bool b => .bool b
  | _, _, .int k n => .int k n
  | _, _, .float k n => .float k n
  | _, _, .any y h => .any y h
  | _, _, .sym h => .sym (hm _ _ h)
  | _, _, .symL h => .symL (hm _ _ h)
  | _, _, .symE a c h he => .symE a c (hm _ _ h) he
  | _, _, .symS c h => .symS c (hm _ _ h)
  | _, _, .string s => .string s
  | _, _, .nilPtr => .nilPtr
  | _, _, .ptr h => .ptr (hm _ _ h)
  | _, _, .nilSlice l c => .nilSlice l c
  | _, _, .slice h => .slice (hm _ _ h)
  | _, _, .nilMap => .nilMap
  | _, _, .map h => .map (hm _ _ h)
  | _, _, .nilChan => .nilChan
  | _, _, .chan h => .chan (hm _ _ h)
  | _, _, .aint x y n h => .aint x y n h
  | _, _, .func ha hc => .func (VsRel.mono hm ha) (VsRel.mono hm hc)
  | _, _, .nilFunc => .nilFunc
  | _, _, .iface h => .iface (VRel.mono hm h)
  | _, _, .nilIface => .nilIface
  | _, _, .agg h => .agg (VsRel.mono hm h)
  | _, _, .tuple h => .tuple (VsRel.mono hm h)
theorem VsRel.mono {m m' : Inj} (hm : m.le m') : ∀ {l l' : List Value}, VsRel m l l' → VsRel m' l l'
  | _, _, .nil => .nil
  | _, _, .cons h hs => .cons (VRel.mono hm h) (VsRel.mono hm hs)
end

section vsrel
variable {m : Inj}
theorem VsRel.length {l l' : List Value} (h : VsRel m l l') : l'.length = l.length := by
  induction l generalizing l' with
  | nil => cases h; rfl
  | cons v l ih => cases h with | cons h hs => simp [ih hs]
theorem VsRel.append {l l' k k' : List Value} (h : VsRel m l l') (hk : VsRel m k k') : VsRel m (l ++ k) (l' ++ k') := by
  induction l generalizing l' with
  | nil => cases h; exact hk
  | cons v l ih => cases h with | cons h hs => exact .cons h (ih hs)
theorem VsRel.take {l l' : List Value} (h : VsRel m l l') (n : Nat) : VsRel m (l.take n) (l'.take n) := by
  induction l generalizing l' n with
  | nil => cases h; simpa using VsRel.nil
  | cons v l ih =>
    cases h with
    | cons h hs =>
      cases n with
      | zero => exact .nil
      | succ n => exact .cons h (ih hs n)
theorem VsRel.drop {l l' : List Value} (h : VsRel m l l') (n : Nat) : VsRel m (l.drop n) (l'.drop n) := by
  induction l generalizing l' n with
  | nil => cases h; simpa using VsRel.nil
  | cons v l ih =>
    cases h with
    | cons h hs =>
      cases n with
      | zero => exact .cons h hs
      | succ n => exact ih hs n
theorem VsRel.get {l l' : List Value} (h : VsRel m l l') {i : Nat} {v : Value} (hi : l[i]? = some v) : ∃ v', l'[i]? = some v' ∧ VRel m v v' := by
  induction l generalizing l' i with
  | nil => simp at hi
  | cons x l ih =>
    cases h with
    | cons h hs =>
      cases i with
      | zero => simp at hi; subst hi; exact ⟨_, rfl, h⟩
      | succ i => simpa using ih hs (by simpa using hi)
theorem VsRel.splice {c c' vs vs' : List Value} (h : VsRel m c c') (hv : VsRel m vs vs') (o : Nat) : VsRel m (splice c o vs) (splice c' o vs') := by
  unfold Ab.splice
  rw [hv.length]
  exact ((h.take o).append hv).append (h.drop _)
theorem VsRel.map {ρ ρ' : Operand → Value} {xs : List Operand} (h : ∀ x ∈ xs, VRel m (ρ x) (ρ' x)) : VsRel m (xs.map ρ) (xs.map ρ') := by
  induction xs with
  | nil => exact .nil
  | cons x xs ih => exact .cons (h x (by simp)) (ih fun y hy => h y (by simp [hy]))
theorem VRel.cells {v v' : Value} (h : VRel m v v') : VsRel m v.cells.toList v'.cells.toList := by
  cases h <;> first
    | (simp only [Value.cells]; assumption)
    | (simp only [Value.cells]; refine .cons ?_ .nil; constructor <;> assumption)
    | (simp only [Value.cells]; refine .cons ?_ .nil; constructor)
    | (rename_i h1; cases v' <;> first | (cases h1; done) | exact .cons (.any _ h1) .nil)
theorem VRel.oneCell {v v' : Value} (h : VRel m v v') : oneCell v' = oneCell v := by
  cases h <;> first
    | rfl
    | (rename_i h1; cases v' <;> first | rfl | (cases h1; done))
theorem VsRel.oneCell {l l' : List Value} (h : VsRel m l l') : l'.all Ab.oneCell = l.all Ab.oneCell := by
  induction l generalizing l' with
  | nil => cases h; rfl
  | cons v l ih => cases h with | cons h hs => simp [h.oneCell, ih hs]
end vsrel

/-! ## flat values -/
theorem all_flat_rel {m : Inj} {n : Nat} (ih : ∀ v, flatN n v = true → VRel m v v) : ∀ l : List Value, l.all (flatN n) = true → VsRel m l l
  | [], _ => .nil
  | v :: l, h => by
    simp only [List.all_cons, Bool.and_eq_true] at h
    exact .cons (ih v h.1) (all_flat_rel ih l h.2)
theorem flatN_rel (m : Inj) : ∀ (n : Nat) (v : Value), flatN n v = true → VRel m v v
  | 0, _, h => by simp [flatN] at h
  | n + 1, v, h => by
    unfold flatN at h
    try simp only [pinfo_eq, pund_eq, pfn_eq] at h
    split at h <;> first
      | exact .bool _ | exact .int _ _ | exact .float _ _ | exact .string _ | exact .nilPtr | exact .nilSlice _ _ | exact .nilMap | exact .nilChan | exact .nilFunc | exact .nilIface
      | exact .iface (flatN_rel m n _ h)
      | exact .agg (all_flat_rel (flatN_rel m n) _ h)
      | exact .tuple (all_flat_rel (flatN_rel m n) _ h)
      | (simp only [Bool.and_eq_true, List.isEmpty_iff] at h; refine .func ?_ ?_ <;> simp only [h.1, h.2] <;> exact .nil)
      | (simp at h; done)
theorem all_flat_eq {m : Inj} {n : Nat} (ih : ∀ v v', flatN n v = true → VRel m v v' → v' = v) : ∀ l l' : List Value, l.all (flatN n) = true → VsRel m l l' → l' = l
  | [], _, _, h => by cases h; rfl
  | v :: l, _, ha, h => by
    simp only [List.all_cons, Bool.and_eq_true] at ha
    cases h with
    | cons h hs => rw [ih v _ ha.1 h, all_flat_eq ih l _ ha.2 hs]
theorem flatN_eq (m : Inj) : ∀ (n : Nat) (v v' : Value), flatN n v = true → VRel m v v' → v' = v
  | 0, _, _, h, _ => by simp [flatN] at h
  | n + 1, v, v', h, hr => by
    cases hr <;> simp only [flatN] at h <;> first
      | rfl
      | (simp at h; done)
      | (rename_i hv; rw [flatN_eq m n _ _ h hv])
      | (rename_i hv; exact congrArg _ (Array.toList_inj.1 (all_flat_eq (flatN_eq m n) _ _ h hv)))
      | (rename_i ha hc
         simp only [Bool.and_eq_true, List.isEmpty_iff] at h
         rw [h.1] at ha; rw [h.2] at hc
         have e1 := ha.length; have e2 := hc.length
         simp only [List.length_nil, List.length_eq_zero_iff] at e1 e2
         rw [Array.toList_inj.1 (e1.trans h.1.symm), Array.toList_inj.1 (e2.trans h.2.symm)])
theorem flat_rel {m : Inj} {v : Value} (h : flat v = true) : VRel m v v := flatN_rel m 6 v h
theorem flat_eq {m : Inj} {v v' : Value} (h : flat v = true) (hr : VRel m v v') : v' = v := flatN_eq m 6 v v' h hr
theorem flats_rel {m : Inj} {l : List Value} (h : l.all flat = true) : VsRel m l l := all_flat_rel (flatN_rel m 6) l h
theorem flats_eq {m : Inj} {l l' : List Value} (h : l.all flat = true) (hr : VsRel m l l') : l' = l := all_flat_eq (flatN_eq m 6) l l' h hr

/-! ## pure runs -/
theorem prun_run {P : Program} {α : Type} {s : Sem α} {a : α} (h : prun P s = some a) (w : World) : s.run P w = .ok a w := by
  induction s generalizing w with
  | pure x => simp only [prun, Option.some.injEq] at h; subst h; rfl
  | program k ih => simp only [prun] at h; exact ih _ h w
  | mark x k ih => simp only [prun] at h; exact ih h w
  | _ => simp [prun] at h

/-! ## memory -/
def seg (c : Array Value) (o n : Nat) : List Value := (c.toList.drop o).take n

def ERel (m : Inj) : List MapEntry → List MapEntry → Prop
  | [], [] => True
  | e :: es, e' :: es' => e'.key = e.key ∧ flat e.key = true ∧ VRel m e.val e'.val ∧ ERel m es es'
  | _, _ => False

def ORel (m : Inj) (base : Nat) (L : Loc) (w : World) : AObj → Prop
  | .cells c es loose frz ro => ∃ cc e fz, w.heap[L.block]? = some (.cells cc e fz) ∧ VsRel m c (seg cc L.off c.length) ∧ ((loose = false → L.extra = 0 ∧ ∀ t, es = t + 1 → e = t ∧ L.off = 0 ∧ cc.size = c.length) ∧ (loose = true → ∀ t, es / 65536 = t + 1 → e = t)) ∧
      (ro = true → L.block < base) ∧
      (ro = false → base ≤ L.block ∧ L.off + c.length + L.extra * (es % 65536) ≤ cc.size ∧ (frz = false → ∀ i, i < cc.size → ¬(fz.1 ≤ i ∧ i < fz.2)))
  | .map es => ∃ es' clock, w.heap[L.block]? = some (.map es' clock) ∧ ERel m es es'.toList ∧ base ≤ L.block
  | .chan closed => ∃ s r, w.heap[L.block]? = some (.chan 0 #[] closed s r false) ∧ base ≤ L.block
  | .dead => True

def AObj.own : AObj → Bool
  | .cells _ _ _ _ ro => !ro
  | .map _ => true
  | .chan _ => true
  | .dead => false
def Mem.own (M : Mem) (b : Nat) : Prop := ∃ o, M.get b = some o ∧ o.own = true

structure Rel (P : Program) (base : Nat) (m : Inj) (M : Mem) (w : World) : Prop where
  low : ∀ g, g < P.globals.size → m g = some ⟨g, 0, 0⟩
  obj : ∀ b L o, m b = some L → M.get b = some o → ORel m base L w o
  apart : ∀ b b' L L', m b = some L → m b' = some L' → M.own b → M.own b' → L.block = L'.block → b = b'
  live : ∀ b L, m b = some L → L.block < w.heap.size
  fresh : ∀ b L, m b = some L → b < M.next
  base : base ≤ w.heap.size
  small : M.next ≤ 4294967296

/-- what a run does to the world, and to the memory, beside what the relation says -/
structure Fr (base : Nat) (m m' : Inj) (M M' : Mem) (w w' : World) : Prop where
  le : m.le m'
  os : w'.os = w.os
  tape : w'.tape = w.tape
  output : w'.output = w.output
  size : w.heap.size ≤ w'.heap.size
  keep : ∀ B, B < w.heap.size → (∀ b L, m b = some L → L.block = B → B < base) → w'.heap[B]? = w.heap[B]?
  new : ∀ b L, m' b = some L → m b = none → base ≤ L.block ∧ (w.heap.size ≤ L.block ∨ ∃ b0 L0, m b0 = some L0 ∧ L0.block = L.block)
  next : M.next ≤ M'.next
  keepM : ∀ b, b < M.next → m b = none → M'.get b = M.get b
  newid : ∀ b L, m' b = some L → m b = none → M.next ≤ b

theorem Fr.refl (base : Nat) (m : Inj) (M : Mem) (w : World) : Fr base m m M M w w :=
  ⟨Inj.le_refl m, rfl, rfl, rfl, Nat.le_refl _, fun _ _ _ => rfl, fun b L h h' => by simp [h] at h', Nat.le_refl _, fun _ _ _ => rfl, fun b L h h' => by simp [h] at h'⟩

theorem Fr.trans {base : Nat} {m m' m'' : Inj} {M M' M'' : Mem} {w w' w'' : World} (h : Fr base m m' M M' w w') (k : Fr base m' m'' M' M'' w' w'') : Fr base m m'' M M'' w w'' := by
  refine ⟨Inj.le_trans h.le k.le, k.os.trans h.os, k.tape.trans h.tape, k.output.trans h.output, Nat.le_trans h.size k.size, ?_, ?_, Nat.le_trans h.next k.next, ?_, ?_⟩
  · intro B hB hm
    rw [k.keep B (Nat.lt_of_lt_of_le hB h.size), h.keep B hB hm]
    intro b L hb hL
    cases hmb : m b with
    | some L' =>
      have := h.le b L' hmb
      rw [hb] at this; cases this
      exact hm b L hmb hL
    | none =>
      obtain ⟨_, h1 | ⟨b0, L0, hb0, hL0⟩⟩ := h.new b L hb hmb
      · omega
      · exact hm b0 L0 hb0 (hL0.trans hL)
  · intro b L hb hmb
    cases hm' : m' b with
    | some L' =>
      have := k.le b L' hm'
      rw [hb] at this; cases this
      exact h.new b L hm' hmb
    | none =>
      obtain ⟨h0, h1 | ⟨b0, L0, hb0, hL0⟩⟩ := k.new b L hb hm'
      · exact ⟨h0, .inl (Nat.le_trans h.size h1)⟩
      · refine ⟨h0, ?_⟩
        cases hmb0 : m b0 with
        | some L1 =>
          have := h.le b0 L1 hmb0
          rw [hb0] at this; cases this
          exact .inr ⟨b0, L0, hmb0, hL0⟩
        | none =>
          obtain ⟨_, h2 | ⟨b1, L1, hb1, hL1⟩⟩ := h.new b0 L0 hb0 hmb0
          · exact .inl (by omega)
          · exact .inr ⟨b1, L1, hb1, hL1.trans hL0⟩
  · intro b hb hmb
    rw [k.keepM b (Nat.lt_of_lt_of_le hb h.next) ?_, h.keepM b hb hmb]
    cases hm' : m' b with
    | none => rfl
    | some L => have := h.newid b L hm' hmb; omega
  · intro b L hb hmb
    cases hm' : m' b with
    | none => exact Nat.le_trans h.next (k.newid b L hb hm')
    | some L' => exact h.newid b L' hm' hmb

theorem Fr.below {base : Nat} {m m' : Inj} {M M' : Mem} {w w' : World} (h : Fr base m m' M M' w w') (hb : base ≤ w.heap.size) : RowKit.Below base w w' :=
  ⟨h.os, h.tape, h.output, h.size, fun k hk => h.keep k (by omega) fun _ _ _ _ => hk⟩
end Go.Ab
