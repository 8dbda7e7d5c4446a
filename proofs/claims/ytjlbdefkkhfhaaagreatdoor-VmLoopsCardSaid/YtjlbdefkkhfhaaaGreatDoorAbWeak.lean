/- Less is known: a state of the abstract machine is replaced by one that says less (blocks dropped, values forgotten). -/
import Derived.Test.YtjlbdefkkhfhaaaGreatDoorAbDraw4
namespace Go.Ab
open Go
noncomputable section

def Inj.only (m : Inj) (keep : Nat → Bool) : Inj := fun b => if keep b = true then m b else none
theorem Inj.only_le (m : Inj) (keep : Nat → Bool) : (m.only keep).le m := fun b L h => by
  unfold Inj.only at h
  split at h
  · exact h
  · cases h

/-- does a value speak of kept blocks alone? -/
def keptV (keep : Nat → Bool) : Nat → Value → Bool
  | 0, _ => false
  | n + 1, v =>
    match v with
    | .pointer (some a) => keep a.block
    | .slice (some a) _ _ => keep a.block
    | .map (some r) => keep r
    | .chan (some r) => keep r
    | .complex .f64 1 b => keep b
    | .complex .f64 2 b => keep b
    | .complex .f64 3 b => keep b
    | .iface _ x => keptV keep n x
    | .agg c => c.toList.all (keptV keep n)
    | .tuple c => c.toList.all (keptV keep n)
    | .func _ a c => a.toList.all (keptV keep n) && c.toList.all (keptV keep n)
    | _ => true

theorem kept_all {m : Inj} {keep : Nat → Bool} {f : Value → Bool} (ih : ∀ v v', f v = true → VRel m v v' → VRel (m.only keep) v v') : ∀ l l' : List Value, l.all f = true → VsRel m l l' → VsRel (m.only keep) l l'
  | [], _, _, h => by cases h; exact .nil
  | v :: l, _, ha, h => by
    simp only [List.all_cons, Bool.and_eq_true] at ha
    cases h with
    | cons h hs => exact .cons (ih _ _ ha.1 h) (kept_all ih _ _ ha.2 hs)
theorem kept_rel {m : Inj} {keep : Nat → Bool} : ∀ (n : Nat) (v v' : Value), keptV keep n v = true → VRel m v v' → VRel (m.only keep) v v'
  | 0, v, v', h, _ => by simp [keptV] at h
  | n + 1, v, v', h, hr => by
    have ih := kept_rel (m := m) (keep := keep) n
    cases hr with
    | bool b => exact .bool b
    | int k x => exact .int k x
    | float k x => exact .float k x
    | any y h1 => exact .any y h1
    | sym hb => simp only [keptV] at h; exact .sym (by simp only [Inj.only, h, if_true]; exact hb)
    | symL hb => simp only [keptV] at h; exact .symL (by simp only [Inj.only, h, if_true]; exact hb)
    | symE a c hb he => simp only [keptV] at h; exact .symE a c (by simp only [Inj.only, h, if_true]; exact hb) he
    | symS c hb => simp only [keptV] at h; exact .symS c (by simp only [Inj.only, h, if_true]; exact hb)
    | string s => exact .string s
    | nilPtr => exact .nilPtr
    | ptr hb => simp only [keptV] at h; exact .ptr (by simp only [Inj.only, h, if_true]; exact hb)
    | nilSlice l c => exact .nilSlice l c
    | slice hb => simp only [keptV] at h; exact .slice (by simp only [Inj.only, h, if_true]; exact hb)
    | nilMap => exact .nilMap
    | map hb => simp only [keptV] at h; exact .map (by simp only [Inj.only, h, if_true]; exact hb)
    | nilChan => exact .nilChan
    | chan hb => simp only [keptV] at h; exact .chan (by simp only [Inj.only, h, if_true]; exact hb)
    | aint x y n h1 => exact .aint x y n h1
    | func ha hc => simp only [keptV, Bool.and_eq_true] at h; exact .func (kept_all ih _ _ h.1 ha) (kept_all ih _ _ h.2 hc)
    | nilFunc => exact .nilFunc
    | iface hv => simp only [keptV] at h; exact .iface (ih _ _ h hv)
    | nilIface => exact .nilIface
    | agg hc => simp only [keptV] at h; exact .agg (kept_all ih _ _ h hc)
    | tuple hc => simp only [keptV] at h; exact .tuple (kept_all ih _ _ h hc)

theorem VRel.plain1 {m : Inj} {v v' : Value} (h : VRel m v v') (hp : plain1 v = true) : Ab.plain1 v' = true := by
  cases h <;> first
    | rfl
    | assumption
    | (cases hp; done)

/-- an int from lo on, below hi -/
def inAint (lo hi : Nat) : Value → Bool
  | .int .i64 (.ofNat n) => Nat.ble lo n && Nat.blt n hi
  | .complex .f32 x y => Nat.ble 1 y && Nat.ble lo x && Nat.ble y hi
  | _ => false

/-- the second says what the first says, or less -/
def weakN (keep : Nat → Bool) : Nat → Value → Value → Bool
  | 0, _, _ => false
  | n + 1, a, b =>
    match b with
    | .complex .f64 0 0 => plain1 a
    | .complex .f32 0 0 => i64ish a
    | .complex .f32 lo hi => inAint lo hi a
    | .agg bs =>
      match a with
      | .agg as => all2 (weakN keep n) as.toList bs.toList
      | _ => false
    | .tuple bs =>
      match a with
      | .tuple as => all2 (weakN keep n) as.toList bs.toList
      | _ => false
    | .iface t x =>
      match a with
      | .iface u y => Nat.beq u t && weakN keep n y x
      | _ => false
    | b => keptV keep 6 b && veqN 6 a b

theorem weak_all {m : Inj} {keep : Nat → Bool} {f : Value → Value → Bool} (ih : ∀ a b v, f a b = true → VRel m a v → VRel (m.only keep) b v) : ∀ {l k x : List Value}, all2 f l k = true → VsRel m l x → VsRel (m.only keep) k x
  | [], [], _, _, h => by cases h; exact .nil
  | a :: l, b :: k, _, ha, h => by
    simp only [all2, Bool.and_eq_true] at ha
    cases h with
    | cons h hs => exact .cons (ih _ _ _ ha.1 h) (weak_all ih ha.2 hs)
  | [], _ :: _, _, h, _ => by simp [all2] at h
  | _ :: _, [], _, h, _ => by simp [all2] at h
theorem weakN_rel {m : Inj} {keep : Nat → Bool} : ∀ (n : Nat) (a b v : Value), weakN keep n a b = true → VRel m a v → VRel (m.only keep) b v
  | 0, _, _, _, h, _ => by simp [weakN] at h
  | n + 1, a, b, v, h, hr => by
    have ih := weakN_rel (m := m) (keep := keep) n
    unfold weakN at h
    split at h
    · exact .any _ (hr.plain1 h)
    · obtain ⟨k, rfl⟩ := i64ish_rel h hr
      exact .aint _ _ _ (.inl rfl)
    · rename_i lo hi _
      unfold inAint at h
      split at h
      · simp only [Bool.and_eq_true, Nat.ble_eq, Nat.blt_eq] at h
        cases hr
        exact .aint _ _ _ (.inr (by simp only [Int.ofNat_eq_natCast]; omega))
      · simp only [Bool.and_eq_true, Nat.ble_eq] at h
        cases hr with
        | aint _ _ k hk => exact .aint _ _ _ (.inr (by omega))
      · cases h
    · split at h
      · cases hr with
        | agg hs => exact .agg (weak_all ih h hs)
      · cases h
    · split at h
      · cases hr with
        | tuple hs => exact .tuple (weak_all ih h hs)
      · cases h
    · split at h
      · simp only [Bool.and_eq_true, Nat.beq_eq] at h
        obtain ⟨rfl, h⟩ := h
        cases hr with
        | iface hs => exact .iface (ih _ _ _ h hs)
      · cases h
    · simp only [Bool.and_eq_true] at h
      have := veqN_eq _ _ _ h.2
      subst this
      exact kept_rel 6 _ _ h.1 hr

theorem all2_len {f : Value → Value → Bool} : ∀ {l k : List Value}, all2 f l k = true → k.length = l.length
  | [], [], _ => rfl
  | a :: l, b :: k, h => by
    simp only [all2, Bool.and_eq_true] at h
    simp [all2_len h.2]
  | [], _ :: _, h => by simp [all2] at h
  | _ :: _, [], h => by simp [all2] at h

def weakE (keep : Nat → Bool) : List MapEntry → List MapEntry → Bool
  | [], [] => true
  | e :: l, d :: k => veqN 6 e.key d.key && weakN keep 8 e.val d.val && weakE keep l k
  | _, _ => false
theorem weakE_rel {m : Inj} {keep : Nat → Bool} : ∀ {l k x : List MapEntry}, weakE keep l k = true → ERel m l x → ERel (m.only keep) k x
  | [], [], [], _, _ => trivial
  | e :: l, d :: k, x :: xs, h, hr => by
    simp only [weakE, Bool.and_eq_true] at h
    obtain ⟨h1, h2, h3, h4⟩ := hr
    have hk := veqN_eq _ _ _ h.1.1
    exact ⟨by rw [h1, hk], by rw [← hk]; exact h2, weakN_rel _ _ _ _ h.1.2 h3, weakE_rel h.2 h4⟩
  | [], _ :: _, _, h, _ => by simp [weakE] at h
  | _ :: _, [], _, h, _ => by simp [weakE] at h
  | [], [], _ :: _, _, h => h.elim
  | _ :: _, _ :: _, [], _, h => h.elim

def weakO (keep : Nat → Bool) : AObj → AObj → Bool
  | .cells c es l f r, .cells c' es' l' f' r' => Nat.beq es es' && l == l' && f == f' && r == r' && all2 (weakN keep 8) c c'
  | .map es, .map es' => weakE keep es es'
  | .chan c, .chan c' => c == c'
  | _, .dead => true
  | _, _ => false

theorem weakO_own {keep : Nat → Bool} {o o' : AObj} (h : weakO keep o o' = true) (ho : o'.own = true) : o.own = true := by
  cases o <;> cases o' <;> first
    | rfl
    | (cases ho; done)
    | (simp [weakO] at h; done)
    | (simp only [weakO, Bool.and_eq_true, beq_iff_eq] at h; simp only [AObj.own] at ho ⊢; rw [h.1.2]; exact ho)

theorem Rel.weaken {P : Program} {base : Nat} {m : Inj} {M M' : Mem} {w : World} (hR : Rel P base m M w) {keep : Nat → Bool} (hlow : ∀ g, g < P.globals.size → keep g = true)
    (hM : ∀ b o', keep b = true → M'.get b = some o' → ∃ o, M.get b = some o ∧ weakO keep o o' = true) (hn : ∀ b, keep b = true → b < M'.next) (hs : M'.next ≤ 4294967296) : Rel P base (m.only keep) M' w := by
  have hon : ∀ b L, m.only keep b = some L → keep b = true ∧ m b = some L := by
    intro b L h
    unfold Inj.only at h
    split at h
    · exact ⟨by assumption, h⟩
    · cases h
  have hown : ∀ b, keep b = true → M'.own b → M.own b := by
    rintro b hk ⟨o', hg, ho⟩
    obtain ⟨o, hg0, hw⟩ := hM b o' hk hg
    exact ⟨o, hg0, weakO_own hw ho⟩
  refine ⟨fun g hg => by simp only [Inj.only, hlow g hg, if_true]; exact hR.low g hg, ?_, ?_, fun b L hb => hR.live b L (hon b L hb).2, fun b L hb => hn b (hon b L hb).1, hR.base, hs⟩
  · intro b L o' hb hg
    obtain ⟨hk, hb⟩ := hon b L hb
    obtain ⟨o, hg0, hw⟩ := hM b o' hk hg
    have ho := hR.obj b L o hb hg0
    cases o' with
    | dead => trivial
    | map es =>
      cases o <;> first | (simp [weakO] at hw; done) | skip
      obtain ⟨es', k, h1, h2, h3⟩ := ho
      exact ⟨es', k, h1, weakE_rel hw h2, h3⟩
    | chan c =>
      cases o <;> first | (simp [weakO] at hw; done) | skip
      simp only [weakO, beq_iff_eq] at hw
      subst hw
      exact ho
    | cells c' es' l' f' r' =>
      cases o <;> first | (simp [weakO] at hw; done) | skip
      simp only [weakO, Bool.and_eq_true, Nat.beq_eq, beq_iff_eq] at hw
      obtain ⟨⟨⟨⟨rfl, rfl⟩, rfl⟩, rfl⟩, hl⟩ := hw
      obtain ⟨cc, e, fz, hh, hv, h3⟩ := ho
      have hlen := all2_len hl
      refine ⟨cc, e, fz, hh, ?_, ?_⟩
      · rw [hlen]; exact weak_all (weakN_rel 8) hl hv
      · rw [hlen]; exact h3
  · intro b b' L L' hb hb' ho ho' he
    obtain ⟨hk, hb⟩ := hon b L hb
    obtain ⟨hk', hb'⟩ := hon b' L' hb'
    exact hR.apart b b' L L' hb hb' (hown b hk ho) (hown b' hk' ho') he

/-! ## memories and frames that are typed out -/
def memGo : List (Nat × AObj) → Tr AObj → Tr AObj
  | [], t => t
  | p :: l, t => memGo l (t.set depth p.1 p.2)
def memOf (next : Nat) (l : List (Nat × AObj)) : Mem := ⟨next, memGo l .nil⟩
theorem memGo_get : ∀ (l : List (Nat × AObj)) (t : Tr AObj) (b : Nat) (o : AObj), (∀ p ∈ l, p.1 < 4294967296) → (memGo l t).get b = some o → (b, o) ∈ l ∨ t.get b = some o
  | [], t, b, o, _, h => .inr h
  | p :: l, t, b, o, hl, h => by
    rcases memGo_get l _ b o (fun q hq => hl q (by simp [hq])) h with h | h
    · exact .inl (by simp [h])
    · by_cases hb : b = p.1
      · subst hb
        rw [Tr.get_set_same _ _ _ _ (by have := hl p (by simp); unfold depth; omega)] at h
        cases h
        exact .inl (by simp)
      · rw [Tr.get_set_ne _ _ _ _ _ hb] at h
        exact .inr h
theorem memOf_get {next : Nat} {l : List (Nat × AObj)} (hl : ∀ p ∈ l, p.1 < 4294967296) {b : Nat} {o : AObj} (h : (memOf next l).get b = some o) : (b, o) ∈ l := by
  rcases memGo_get l .nil b o hl h with h | h
  · exact h
  · simp [Tr.get_nil] at h

def keepOf (G next : Nat) (l : List (Nat × AObj)) (b : Nat) : Bool := Nat.blt b G || ((memOf next l).get b).isSome

def actGo : List (Nat × Value) → Tr Value → Tr Value
  | [], t => t
  | p :: l, t => actGo l (t.set depth p.1 p.2)
def actOf (n : Nat) (l : List (Nat × Value)) (ds : List Deferred) : DAct := ⟨n, actGo l .nil, ds, []⟩
theorem actGo_get : ∀ (l : List (Nat × Value)) (t : Tr Value) (b : Nat), (∀ p ∈ l, p.1 ≠ b) → (actGo l t).get b = t.get b
  | [], t, b, _ => rfl
  | p :: l, t, b, hl => by
    show (actGo l (t.set depth p.1 p.2)).get b = _
    rw [actGo_get l _ b (fun q hq => hl q (by simp [hq])), Tr.get_set_ne _ _ _ _ _ (Ne.symm (hl p (by simp)))]

def weakD (keep : Nat → Bool) (d d' : Deferred) : Bool :=
  match d.target, d'.target with
  | .fn f c, .fn g c' => decide (f = g) && all2 (weakN keep 6) c.toList c'.toList && all2 (weakN keep 6) d.args.toList d'.args.toList
  | _, _ => false
def weakDs (keep : Nat → Bool) : List Deferred → List Deferred → Bool
  | [], [] => true
  | d :: l, d' :: k => weakD keep d d' && weakDs keep l k
  | _, _ => false
theorem weakDs_rel {m : Inj} {keep : Nat → Bool} : ∀ {l k x : List Deferred}, weakDs keep l k = true → DsRel m l x → DsRel (m.only keep) k x
  | [], [], [], _, _ => trivial
  | d :: l, d' :: k, x :: xs, h, hr => by
    simp only [weakDs, Bool.and_eq_true] at h
    obtain ⟨⟨fn, c, c', e1, e2, h3, h4⟩, hs⟩ := hr
    refine ⟨?_, weakDs_rel h.2 hs⟩
    have hd := h.1
    unfold weakD at hd
    rw [e1] at hd
    split at hd
    · rename_i f c1 g c2 e3 e4
      cases e3
      simp only [Bool.and_eq_true, decide_eq_true_eq] at hd
      obtain ⟨⟨rfl, hc⟩, ha⟩ := hd
      exact ⟨_, c2, c', e4, e2, weak_all (weakN_rel 6) hc h3, weak_all (weakN_rel 6) ha h4⟩
    · cases hd
  | [], _ :: _, _, h, _ => by simp [weakDs] at h
  | _ :: _, [], _, h, _ => by simp [weakDs] at h
  | [], [], _ :: _, _, h => h.elim
  | _ :: _, _ :: _, [], _, h => h.elim

/-- a state typed out -/
structure St where
  n : Nat
  tmps : List (Nat × Value)
  defers : List Deferred
  next : Nat
  objs : List (Nat × AObj)
def St.act (s : St) : DAct := actOf s.n s.tmps s.defers
def St.mem (s : St) : Mem := memOf s.next s.objs

/-- the state typed out says what (a, M) says, or less; the temporaries in 'skip' are not looked at -/
def weakS (G : Nat) (skip : List Nat) (a : DAct) (M : Mem) (s : St) : Bool :=
  Nat.beq a.n s.n && a.junk.isEmpty && s.tmps.all (fun p => Nat.blt p.1 s.n) && (List.range s.n).all (fun i => memN i skip || weakN (keepOf G s.next s.objs) 6 (a.tmp i) (s.act.tmp i)) &&
  weakDs (keepOf G s.next s.objs) a.defers s.defers && Nat.ble G s.next && Nat.ble s.next 4294967296 &&
  s.objs.all (fun p => Nat.blt p.1 s.next && (match M.get p.1 with
    | some o => weakO (keepOf G s.next s.objs) o p.2
    | none => false))

theorem weakS_only {P : Program} {base : Nat} {m : Inj} {a : DAct} {a' : Act} {M : Mem} {w : World} {s : St} {skip : List Nat} (h : weakS P.globals.size skip a M s = true) (hA : ARel m a a') (hR : Rel P base m M w)
    (hskip : ∀ i ∈ skip, ∀ m', VRel m' (s.act.tmp i) (a'.tmps.getD i undef)) : ARel (m.only (keepOf P.globals.size s.next s.objs)) s.act a' ∧ Rel P base (m.only (keepOf P.globals.size s.next s.objs)) s.mem w := by
  unfold weakS at h
  simp only [Bool.and_eq_true, Nat.beq_eq, List.isEmpty_iff, List.all_eq_true, Nat.blt_eq, Nat.ble_eq, List.mem_range, Bool.or_eq_true] at h
  obtain ⟨⟨⟨⟨⟨⟨⟨h1, h2⟩, h3⟩, h4⟩, h5⟩, h6⟩, h7⟩, h8⟩ := h
  have hid : ∀ p ∈ s.objs, p.1 < 4294967296 := fun p hp => Nat.lt_of_lt_of_le (h8 p hp).1 h7
  refine ⟨⟨hA.size.trans h1, by rw [show s.act.n = a.n from h1.symm]; exact hA.small, fun i _ => ?_, weakDs_rel h5 hA.defers⟩, hR.weaken (fun g hg => ?_) (fun b o' hk hg => ?_) (fun b hk => ?_) h7⟩
  · by_cases hi : i < s.n
    · rcases h4 i hi with h | h
      · exact hskip i (memN_iff.1 h) _
      · exact weakN_rel 6 _ _ _ h (hA.tmp i (by rw [h2]; simp))
    · have e1 : s.act.tmp i = undef := by
        show ((actGo s.tmps .nil).get i).getD undef = undef
        rw [actGo_get _ _ _ fun p hp he => hi (by rw [← he]; exact h3 p hp), Tr.get_nil]; rfl
      have e2 : a'.tmps.getD i undef = undef := by
        rw [Array.getD_eq_getD_getElem?, Array.getElem?_eq_none (by rw [hA.size, h1]; omega)]; rfl
      rw [e1, e2]
      exact undef_rel _
  · simp [keepOf, Nat.blt_eq, hg]
  · have hm := memOf_get hid hg
    have := (h8 _ hm).2
    split at this
    · rename_i o ho
      exact ⟨o, ho, this⟩
    · cases this
  · unfold keepOf at hk
    simp only [Bool.or_eq_true, Nat.blt_eq, Option.isSome_iff_exists] at hk
    rcases hk with hk | ⟨o, ho⟩
    · exact Nat.lt_of_lt_of_le hk h6
    · exact (h8 _ (memOf_get hid ho)).1
theorem weakS_ok {P : Program} {base : Nat} {m : Inj} {a : DAct} {a' : Act} {M : Mem} {w : World} {s : St} {skip : List Nat} (h : weakS P.globals.size skip a M s = true) (hA : ARel m a a') (hR : Rel P base m M w)
    (hskip : ∀ i ∈ skip, ∀ m', VRel m' (s.act.tmp i) (a'.tmps.getD i undef)) : ∃ m', m'.le m ∧ ARel m' s.act a' ∧ Rel P base m' s.mem w :=
  ⟨_, Inj.only_le _ _, weakS_only h hA hR hskip⟩
end
end Go.Ab
