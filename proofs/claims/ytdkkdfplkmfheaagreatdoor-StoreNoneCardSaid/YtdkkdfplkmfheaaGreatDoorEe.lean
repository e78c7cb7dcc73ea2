/- Drawn regions; the whole evaluator is true; prims. -/
import Derived.Test.YtdkkdfplkmfheaaGreatDoorEd
import Derived.Below
set_option linter.unusedSimpArgs false
set_option linter.unusedVariables false
namespace Go.Ev
section
variable {C : Cx} {R : Iv} {rnd : Option Nat} {sz : Nat} {ops : List Oper} {base : Nat} {W : T Nat} {st : Nat → DS} {kd : Nat → Kd}
/-- Made by step j, and no act behind it, ahead of i, must follow it. -/
def Made (ops : List Oper) (base : Nat) (kd : Nat → Kd) (i : Nat) (p : Pd) : Prop := p.j < i ∧ (∃ g v, kd p.j = .new g v p.o) ∧ p.id = base + p.j ∧ ∀ a, p.j < a → a < i → isActK (kd a) → bef (masks ops) p.j a = false
theorem Tr.pend (h : Tr C R rnd sz ops base W st kd) : ∀ i, i ≤ ops.length → ∀ p, p ∈ (st i).pend ↔ Made ops base kd i p
  | 0, _, p => by
    rw [h.zero.2.1]
    constructor
    · intro hp; cases hp
    · intro hp; exact absurd hp.1 (Nat.not_lt_zero _)
  | i + 1, hi, p => by
    obtain ⟨o, ho⟩ := h.op (show i < ops.length by omega)
    have hj := h.jj i (by omega)
    have ih := h.pend i (by omega) p
    have hK := h.kind i o ho
    have same : ¬ isActK (kd i) → (∀ g v ob, kd i ≠ .new g v ob) → (Made ops base kd i p ↔ Made ops base kd (i + 1) p) := by
      intro hna hnn
      constructor
      · rintro ⟨h1, h2, h3, h4⟩
        refine ⟨by omega, h2, h3, fun a ha hb hk => ?_⟩
        by_cases e : a = i
        · subst e; exact absurd hk hna
        · exact h4 a ha (by omega) hk
      · rintro ⟨h1, ⟨g, v, h2⟩, h3, h4⟩
        have hne : p.j ≠ i := by rintro e; rw [e] at h2; exact hnn _ _ _ h2
        exact ⟨by omega, ⟨g, v, h2⟩, h3, fun a ha hb hk => h4 a ha (by omega) hk⟩
    cases hkd : kd i with
    | pure v =>
      rw [hkd] at hK; obtain ⟨⟨tm, _, e⟩, _⟩ := hK; rw [e]
      exact ih.trans (same (by rw [hkd]; simp [isActK]) (by rw [hkd]; simp))
    | rdr f v =>
      rw [hkd] at hK; obtain ⟨_, _, _, _, _, _, tm, _, e⟩ := hK; rw [e]
      exact ih.trans (same (by rw [hkd]; simp [isActK]) (by rw [hkd]; simp))
    | new g v ob =>
      rw [hkd] at hK; obtain ⟨_, _, _, _, _, tm, _, e⟩ := hK; rw [e]
      simp only [List.mem_cons]
      constructor
      · rintro (rfl | hp)
        · refine ⟨by simp only; omega, ⟨g, v, by simp only; rw [hj]; exact hkd⟩, rfl, fun a ha hb hk => ?_⟩
          simp only at ha
          omega
        · obtain ⟨h1, h2, h3, h4⟩ := ih.1 hp
          refine ⟨by omega, h2, h3, fun a ha hb hk => ?_⟩
          by_cases e' : a = i
          · subst e'; rw [hkd] at hk; exact absurd hk (by simp [isActK])
          · exact h4 a ha (by omega) hk
      · rintro ⟨h1, ⟨g', v', h2⟩, h3, h4⟩
        by_cases e' : p.j = i
        · left
          rw [e', hkd] at h2
          cases h2
          obtain ⟨pj, pid, po⟩ := p
          simp only at e' h3
          subst e'
          subst h3
          rw [hj]
          rfl
        · right
          exact ih.2 ⟨by omega, ⟨g', v', h2⟩, h3, fun a ha hb hk => h4 a ha (by omega) hk⟩
    | act f v =>
      rw [hkd] at hK; obtain ⟨_, _, _, _, S1, _, _, tm, _, e⟩ := hK; rw [e]
      simp only [List.mem_filter, Bool.not_eq_true']
      rw [hj]
      constructor
      · rintro ⟨hp, hb⟩
        obtain ⟨h1, h2, h3, h4⟩ := ih.1 hp
        refine ⟨by omega, h2, h3, fun a ha hlt hk => ?_⟩
        by_cases e' : a = i
        · subst e'; exact hb
        · exact h4 a ha (by omega) hk
      · rintro ⟨h1, ⟨g, v', h2⟩, h3, h4⟩
        have hne : p.j ≠ i := by rintro e'; rw [e', hkd] at h2; cases h2
        refine ⟨ih.2 ⟨by omega, ⟨g, v', h2⟩, h3, fun a ha hb hk => h4 a ha (by omega) hk⟩, ?_⟩
        exact h4 i (by omega) (by omega) (by rw [hkd]; trivial)
end
end Go.Ev
namespace Go.Ev
section
variable {C : Cx} {R : Iv} {rnd : Option Nat} {sz : Nat} {ops : List Oper} {base : Nat} {W : T Nat} {st : Nat → DS} {kd : Nat → Kd}
/-- A temporary's value when the operations of D are done. -/
def TmD (ops : List Oper) (W : T Nat) (st : Nat → DS) (D : Nat → Prop) (t : Nat) (v : AV) : Prop :=
  (∃ q, W.get t = some q ∧ D q ∧ (st ops.length).tm.get t = some v) ∨ ((∀ q, W.get t = some q → ¬ D q) ∧ (st 0).tm.get t = some v)
/-- Closed under the edges that bind. -/
structure Cl (ops : List Oper) (D : Nat → Prop) : Prop where
  lt : ∀ j, D j → j < ops.length
  edge : ∀ j o, D j → ops[j]? = some o → ∀ e ∈ o.after.toList, bindsAny e = true → D e.on
theorem Cl.bef {D : Nat → Prop} (h : Cl ops D) {i j : Nat} (hj : D j) (hb : Ev.bef (masks ops) i j = true) : D i := bef_closed h.edge h.lt j hj hb
/-- It may come next. -/
structure Rdy (ops : List Oper) (D : Nat → Prop) (i : Nat) (o : Oper) : Prop where
  op : ops[i]? = some o
  new : ¬ D i
  edge : ∀ e ∈ o.after.toList, bindsAny e = true → D e.on
theorem Rdy.bef {D : Nat → Prop} (hC : Cl ops D) {i q : Nat} {o : Oper} (h : Rdy ops D i o) (hb : Ev.bef (masks ops) q i = true) : D q := by
  obtain ⟨e, he, hbe, h1⟩ := bef_edge h.op hb
  have hd := h.edge e he hbe
  rcases h1 with rfl | ⟨_, h1⟩
  · exact hd
  · exact hC.bef hd h1
theorem Rdy.cl {D : Nat → Prop} (hC : Cl ops D) {i : Nat} {o : Oper} (h : Rdy ops D i o) : Cl ops (fun j => D j ∨ j = i) := by
  refine ⟨fun j hj => ?_, fun j o' hj ho e he hb => ?_⟩
  · rcases hj with hj | rfl
    · exact hC.lt j hj
    · exact (List.getElem?_eq_some_iff.1 h.op).1
  · rcases hj with hj | rfl
    · exact .inl (hC.edge j o' hj ho e he hb)
    · rw [h.op] at ho; cases ho
      exact .inl (h.edge e he hb)
/-- The evaluator looks at the same value, whatever came first. -/
theorem Tr.same (h : Tr C R rnd sz ops base W st kd) {D : Nat → Prop} (hC : Cl ops D) {i : Nat} {o : Oper} (hr : Rdy ops D i o) {t : Nat} {v : AV} (ht : ∀ q, W.get t = some q → bef (masks ops) q i = true ∨ bef (masks ops) i q = true) (hv : (st i).tm.get t = some v) : TmD ops W st D t v := by
  have hi : i < ops.length := (List.getElem?_eq_some_iff.1 hr.op).1
  have lt := @bef_lt ops h.edges
  cases hw : W.get t with
  | none =>
    right
    refine ⟨fun q hq => (by rw [hw] at hq; cases hq), ?_⟩
    rw [← h.before (Nat.le_of_lt hi) (fun q hq => by rw [hw] at hq; cases hq)]
    exact hv
  | some q =>
    rcases ht q hw with hb | hb
    · left
      refine ⟨q, hw, hr.bef hC hb, ?_⟩
      rw [h.after (Nat.le_of_lt hi) hw (lt i hb)]
      exact hv
    · right
      refine ⟨fun q' hq' hd => ?_, ?_⟩
      · rw [hw] at hq'; cases hq'
        exact hr.new (hC.bef hd hb)
      · rw [← h.before (Nat.le_of_lt hi) (fun q' hq' => by rw [hw] at hq'; cases hq'; exact Nat.le_of_lt (lt q hb))]
        exact hv
theorem tmpOf_some {x : Operand} {t : Nat} : tmpOf x = some t ↔ x = .tmp t := by cases x <;> simp [tmpOf]
theorem Tr.opnd (h : Tr C R rnd sz ops base W st kd) {i : Nat} {o : Oper} (ho : ops[i]? = some o) {t : Nat} (ht : Operand.tmp t ∈ o.op.operands.toList) : ∀ q, W.get t = some q → bef (masks ops) q i = true ∨ bef (masks ops) i q = true := by
  intro q hq
  have hn := h.names i o ho
  simp only [namesOk, andB_eq, Bool.and_eq_true, lall_eq, List.all_eq_true] at hn
  have := hn.1 _ ht
  unfold tmpOk at this
  rw [show tmpOf (.tmp t) = some t from rfl, oel_some, hq, oel_some, orB_eq, Bool.or_eq_true] at this
  exact this
theorem Tr.guard (h : Tr C R rnd sz ops base W st kd) {i : Nat} {o : Oper} (ho : ops[i]? = some o) {g : Nat × Bool} (hg : o.guard = some g) : bef (masks ops) g.1 i = true := by
  have hn := h.names i o ho
  simp only [namesOk, andB_eq, Bool.and_eq_true] at hn
  have := hn.2
  rw [hg, oel_some] at this
  exact this
/-- The temporaries that an operation looks at. -/
noncomputable def tempsOf (o : Oper) : List Nat := o.op.operands.toList.filterMap fun x => tmpOf x
theorem cut_same (tm : T AV) (o : Oper) : SameOn (cutTm tm (tempsOf o)) tm o.op.operands.toList := by
  intro x hx
  cases x with
  | tmp t =>
    show (cutTm tm (tempsOf o)).get t = tm.get t
    rw [cutTm_get, if_pos]
    exact List.mem_filterMap.2 ⟨.tmp t, hx, rfl⟩
  | const v => rfl
  | global g => rfl
  | func f => rfl
/-- The frame that an operation sees. -/
theorem Tr.cutTR (h : Tr C R rnd sz ops base W st kd) {D : Nat → Prop} (hC : Cl ops D) {i : Nat} {o : Oper} (hr : Rdy ops D i o) {E : Env} {tmps : Array Value} (hT : ∀ t v, TmD ops W st D t v → VR E v (tmps.getD t undef)) : TR E tmps.size (cutTm (st i).tm (tempsOf o)) tmps := by
  refine ⟨rfl, fun t v hv => ?_⟩
  rw [cutTm_get] at hv
  by_cases hm : t ∈ tempsOf o
  · rw [if_pos hm] at hv
    obtain ⟨x, hx, hxt⟩ := List.mem_filterMap.1 hm
    rw [tmpOf_some] at hxt
    subst hxt
    exact hT t v (h.same hC hr (h.opnd hr.op hx) hv)
  · rw [if_neg hm] at hv; cases hv
end
end Go.Ev
namespace Go.Ev
section
variable {C : Cx} {R : Iv} {rnd : Option Nat} {sz : Nat} {ops : List Oper} {base : Nat} {W : T Nat} {st : Nat → DS} {kd : Nat → Kd}
/-- The acts that are done are those ahead of m. -/
structure Upto (kd : Nat → Kd) (D : Nat → Prop) (n m : Nat) : Prop where
  le : m ≤ n
  sub : ∀ q, q < m → isActK (kd q) → D q
  sup : ∀ q, D q → isActK (kd q) → q < m
theorem Tr.readDown (h : Tr C R rnd sz ops base W st kd) {D : Nat → Prop} (hC : Cl ops D) {i m : Nat} {o : Oper} (hr : Rdy ops D i o) (hU : Upto kd D ops.length m) {f : VH} {v : AV} (hacts : ∀ p ∈ (st i).acts, bef (masks ops) p.j i = true ∨ optSame (f C (st i).tm p.S) v = true) (hv : f C (st i).tm (st i).S = some v) :
    ∀ d, m + d = i → ∀ e, e ≤ d → f C (st i).tm (st (m + (d - e))).S = some v := by
  intro d hd e
  have hi : i < ops.length := (List.getElem?_eq_some_iff.1 hr.op).1
  induction e with
  | zero => intro _; rw [Nat.sub_zero, hd]; exact hv
  | succ e ih =>
    intro he
    have ih := ih (by omega)
    have hk : m + (d - e) = m + (d - (e + 1)) + 1 := by omega
    by_cases ha : isActK (kd (m + (d - (e + 1))))
    · have hmem := h.acts i (Nat.le_of_lt hi) (m + (d - (e + 1))) (by omega) ha
      rcases hacts _ hmem with hb | hs
      · have hD := hr.bef hC hb
        have hlt : m + (d - (e + 1)) < m := hU.sup _ hD ha
        omega
      · exact optSame_eq hs
    · rw [hk, (h.SStep (show m + (d - (e + 1)) < ops.length by omega) ha).1] at ih
      exact ih
theorem Tr.readUp (h : Tr C R rnd sz ops base W st kd) {D : Nat → Prop} (hC : Cl ops D) {i m : Nat} {o : Oper} (hr : Rdy ops D i o) (hU : Upto kd D ops.length m) {f : VH} {v : AV} (hk : kd i = .rdr f v) (hv : f C (st i).tm (st i).S = some v) :
    ∀ d, i + d ≤ m → f C (st i).tm (st (i + d)).S = some v := by
  intro d
  induction d with
  | zero => intro _; exact hv
  | succ d ih =>
    intro hd
    have ih := ih (by omega)
    have hlt : i + d < ops.length := by have := hU.le; omega
    by_cases ha : isActK (kd (i + d))
    · have hne : d ≠ 0 := by
        rintro rfl
        rw [Nat.add_zero, hk] at ha
        exact absurd ha (by simp [isActK])
      obtain ⟨o', ho'⟩ := h.op hlt
      have hK := h.kind _ o' ho'
      have hmem := h.reads (i + d) (by omega) i f v (by omega) hk
      cases hkd : kd (i + d) with
      | act g u =>
        rw [hkd] at hK
        obtain ⟨_, _, _, _, S1, _, hreads, tm, _, e⟩ := hK
        rcases hreads _ hmem with hb | hs
        · rw [h.jj (i + d) (by omega)] at hb
          exact absurd (hC.bef (hU.sub _ (by omega) ha) hb) hr.new
        · rw [show i + (d + 1) = i + d + 1 by omega, e]
          exact optSame_eq hs
      | _ => rw [hkd] at ha; exact absurd ha (by simp [isActK])
    · rw [show i + (d + 1) = i + d + 1 by omega, (h.SStep hlt ha).1]
      exact ih
theorem Tr.readAt (h : Tr C R rnd sz ops base W st kd) {D : Nat → Prop} (hC : Cl ops D) {i m : Nat} {o : Oper} (hr : Rdy ops D i o) (hU : Upto kd D ops.length m) {f : VH} {v : AV} (hk : kd i = .rdr f v) (hacts : ∀ p ∈ (st i).acts, bef (masks ops) p.j i = true ∨ optSame (f C (st i).tm p.S) v = true) (hv : f C (st i).tm (st i).S = some v) :
    f C (st i).tm (st m).S = some v := by
  by_cases hm : m ≤ i
  · have := h.readDown hC hr hU hacts hv (i - m) (by omega) (i - m) (Nat.le_refl _)
    simpa using this
  · have := h.readUp hC hr hU hk hv (m - i) (by omega)
    rw [show i + (m - i) = m by omega] at this
    exact this
end
end Go.Ev
namespace Go.Ev
section
variable {C : Cx} {R : Iv} {rnd : Option Nat} {sz : Nat} {ops : List Oper} {base : Nat} {W : T Nat} {st : Nat → DS} {kd : Nat → Kd}
theorem Tr.tmpPut (h : Tr C R rnd sz ops base W st kd) {D : Nat → Prop} {i : Nat} {o : Oper} {v : AV} {E : Env} {a : Act} {x : Value} (ho : ops[i]? = some o) (hp : putT sz o.dst v (st i).tm = some (st (i + 1)).tm) (hsz : a.tmps.size = sz)
    (ht : ∀ t v, TmD ops W st D t v → VR E v (a.tmps.getD t undef)) (hx : VR E v x) : ∀ t v', TmD ops W st (fun j => D j ∨ j = i) t v' → VR E v' ((a.put o.dst x).tmps.getD t undef) := by
  intro t v' hT
  have hi : i < ops.length := (List.getElem?_eq_some_iff.1 ho).1
  by_cases hd : o.dst = some t
  · -- its own
    have hw : W.get t = some i := (h.wr t i).2 ⟨o, ho, hd⟩
    rcases hT with ⟨q, hq, _, hv⟩ | ⟨hno, _⟩
    · have hfin := h.after (i := i + 1) (by omega) hw (Nat.lt_succ_self i)
      rw [hfin, putT_get hp, if_pos hd] at hv
      cases hv
      have htl : t < sz := by
        rw [hd] at hp
        simp only [putT, oel_some, tst_some, blt_iff] at hp
        exact hp.1
      have : (a.put o.dst x).tmps.getD t undef = x := by
        rw [hd]
        simp only [Act.put, Array.getD_eq_getD_getElem?]
        rw [Array.getElem?_setIfInBounds_self_of_lt (by omega)]
        rfl
      rw [this]; exact hx
    · exact absurd (.inr rfl) (hno i hw)
  · have hsame : (a.put o.dst x).tmps.getD t undef = a.tmps.getD t undef := by
      cases hdd : o.dst with
      | none => rfl
      | some d =>
        have hne : d ≠ t := by rintro rfl; exact hd hdd
        simp only [Act.put, Array.getD_eq_getD_getElem?]
        rw [Array.getElem?_setIfInBounds_ne hne]
    rw [hsame]
    refine ht t v' ?_
    rcases hT with ⟨q, hq, hD, hv⟩ | ⟨hno, hv⟩
    · left
      refine ⟨q, hq, ?_, hv⟩
      rcases hD with hD | rfl
      · exact hD
      · obtain ⟨o', ho', hd'⟩ := (h.wr t q).1 hq
        rw [ho] at ho'; cases ho'
        exact absurd hd' hd
    · exact .inr ⟨fun q hq hD => hno q hq (.inl hD), hv⟩
def Unlaid (ops : List Oper) (kd : Nat → Kd) (q m : Nat) : Prop := ∀ a, q < a → a < m → isActK (kd a) → bef (masks ops) q a = false
/-- Frame and memory when the operations of D are done. -/
structure InvE (C : Cx) (sz : Nat) (ops : List Oper) (base : Nat) (W : T Nat) (st : Nat → DS) (kd : Nat → Kd) (dfs : List ADef) (E0 : Env) (S0 : AW) (w0 : World) (D : Nat → Prop) (E : Env) (m : Nat) (a : Act) (w : World) : Prop where
  upto : Upto kd D ops.length m
  ty : TTok C.P C.tt
  sim : Sim E (st m).S w
  size : a.tmps.size = sz
  tmp : ∀ t v, TmD ops W st D t v → VR E v (a.tmps.getD t undef)
  dfr : DR E dfs a.defers
  grow : Grow base E0 S0 w0 E (st m).S w
  next : base + ops.length ≤ (st m).S.next
  out : ∀ q g v ob, q < ops.length → kd q = .new g v ob → ¬ D q → E.loc (base + q) = none
  ins : ∀ q g v ob, kd q = .new g v ob → D q → ∃ l, E.loc (base + q) = some l ∧ (Unlaid ops kd q m → OR E w l ob ∧ (live ob → w0.heap.size ≤ l.blk ∧ ∀ i o li, (st m).S.heap.get i = some o → live o → E.loc i = some li → li.blk ≠ l.blk))
  dist : ∀ q q' g v ob g' v' ob' l l', kd q = .new g v ob → kd q' = .new g' v' ob' → D q → D q' → q ≠ q' → Unlaid ops kd q m → Unlaid ops kd q' m → live ob → live ob' → E.loc (base + q) = some l → E.loc (base + q') = some l' → l.blk ≠ l'.blk
/-- A step that leaves memory as it is. -/
theorem InvE.quiet (h : Tr C R rnd sz ops base W st kd) {dfs : List ADef} {E0 E : Env} {S0 : AW} {w0 w : World} {D : Nat → Prop} {m i : Nat} {a : Act} {o : Oper} {v : AV} {x : Value} (hI : InvE C sz ops base W st kd dfs E0 S0 w0 D E m a w) (ho : ops[i]? = some o) (hp : putT sz o.dst v (st i).tm = some (st (i + 1)).tm) (hx : VR E v x)
    (hna : ¬ isActK (kd i)) (hnn : ∀ g v ob, kd i ≠ .new g v ob) : InvE C sz ops base W st kd dfs E0 S0 w0 (fun j => D j ∨ j = i) E m (a.put o.dst x) w := by
  refine ⟨⟨hI.upto.le, fun q hq hk => .inl (hI.upto.sub q hq hk), fun q hD hk => ?_⟩, hI.ty, hI.sim, by rw [put_size]; exact hI.size, h.tmpPut ho hp hI.size hI.tmp hx, by rw [put_defers]; exact hI.dfr, hI.grow, hI.next,
    fun q g v ob hq hk hD => hI.out q g v ob hq hk fun hd => hD (.inl hd), fun q g v ob hk hD => ?_, fun q q' g v ob g' v' ob' l l' hk hk' hD hD' => ?_⟩
  · rcases hD with hD | rfl
    · exact hI.upto.sup q hD hk
    · exact absurd hk hna
  · rcases hD with hD | rfl
    · exact hI.ins q g v ob hk hD
    · exact absurd hk (hnn g v ob)
  · rcases hD with hD | rfl
    · rcases hD' with hD' | rfl
      · exact hI.dist q q' g v ob g' v' ob' l l' hk hk' hD hD'
      · exact absurd hk' (hnn g' v' ob')
    · exact absurd hk (hnn g v ob)
end
end Go.Ev
namespace Go.Ev
theorem OR.keepW {E : Env} {w w' : World} {l : Loc} {o : AObj} (h : OR E w l o) (hk : ∀ b, b < w.heap.size → w'.heap[b]? = w.heap[b]?) : OR E w' l o := by
  by_cases hb : l.blk < w.heap.size
  · exact h.heap (hk _ hb)
  · have hn : w.heap[l.blk]? = none := by simp; omega
    cases o <;> simp only [OR] at h ⊢ <;> simp_all
section
variable {C : Cx} {R : Iv} {rnd : Option Nat} {sz : Nat} {ops : List Oper} {base : Nat} {W : T Nat} {st : Nat → DS} {kd : Nat → Kd}
theorem InvE.new (h : Tr C R rnd sz ops base W st kd) {dfs : List ADef} {E0 E : Env} {S0 : AW} {w0 w w' : World} {D : Nat → Prop} {m i : Nat} {a : Act} {o : Oper} {v : AV} {x : Value} {g : NH} {ob : AObj} {l : Loc} (hI : InvE C sz ops base W st kd dfs E0 S0 w0 D E m a w) (ho : ops[i]? = some o) (hni : ¬ D i)
    (hp : putT sz o.dst v (st i).tm = some (st (i + 1)).tm) (hk : kd i = .new g v ob) (hx : VR (E.put (base + i) l) v x) (hF : Fresh E w (base + i) ob l w') : InvE C sz ops base W st kd dfs E0 S0 w0 (fun j => D j ∨ j = i) (E.put (base + i) l) m (a.put o.dst x) w' := by
  have hi : i < ops.length := (List.getElem?_eq_some_iff.1 ho).1
  have hE : E.loc (base + i) = none := hI.out i g v ob hi hk hni
  have hle : Le E (E.put (base + i) l) := Env.put_le hE
  have hna : ¬ isActK (kd i) := by rw [hk]; simp [isActK]
  have hsim : Sim (E.put (base + i) l) (st m).S w' := (hI.sim.keep hF.keep).put l hE (n := (st m).S.next) (Nat.le_refl _) (by have := hI.next; omega)
  have hnoid : ∀ j oj, (st m).S.heap.get j = some oj → j ≠ base + i := by
    rintro j oj hj rfl
    obtain ⟨l', hl', _⟩ := hI.sim.obj _ _ hj
    rw [hE] at hl'; cases hl'
  have hother : ∀ q, q ≠ i → (E.put (base + i) l).loc (base + q) = E.loc (base + q) := fun q hq => Env.put_other l (by omega)
  have hg : Grow base E (st m).S w (E.put (base + i) l) (st m).S w' := by
    refine ⟨hle, hF.os, hF.tape, hF.output, hF.size, fun b hb _ => hF.keep b hb, fun j oj lj hj hlv hlj => ?_, Nat.le_refl _, fun j hj hn => ?_⟩
    · rw [Env.put_other l (hnoid j oj hj)] at hlj
      exact .inr ⟨j, oj, lj, hj, hlv, hlj, rfl, fun x => x⟩
    · rw [Env.put_other l (by omega)]; exact hn
  have hnew : live ob → w.heap.size ≤ l.blk := hF.blk
  refine ⟨⟨hI.upto.le, fun q hq hk => .inl (hI.upto.sub q hq hk), fun q hD hk' => ?_⟩, hI.ty, hsim, by rw [put_size]; exact hI.size, h.tmpPut ho hp hI.size (fun t v ht => VR.mono hle _ _ (hI.tmp t v ht)) hx, by rw [put_defers]; exact hI.dfr.mono hle, hI.grow.trans hg, hI.next,
    fun q g' v' ob' hq hk' hD => ?_, fun q g' v' ob' hk' hD => ?_, fun q q' g1 v1 ob1 g2 v2 ob2 l1 l2 hk1 hk2 hD1 hD2 hne hu1 hu2 hlv1 hlv2 hl1 hl2 => ?_⟩
  · rcases hD with hD | rfl
    · exact hI.upto.sup q hD hk'
    · exact absurd hk' hna
  · have hqi : q ≠ i := fun e => hD (.inr e)
    rw [hother q hqi]
    exact hI.out q g' v' ob' hq hk' fun hd => hD (.inl hd)
  · by_cases hqi : q = i
    · subst hqi
      rw [hk] at hk'; cases hk'
      refine ⟨l, Env.put_same E _ l, fun _ => ⟨hF.or_, fun hlv => ⟨Nat.le_trans hI.grow.size (hnew hlv), fun j oj lj hj hlj hlo hb => ?_⟩⟩⟩
      rw [Env.put_other l (hnoid j oj hj)] at hlo
      obtain ⟨lj', hlj', hOj⟩ := hI.sim.obj _ _ hj
      rw [hlo] at hlj'; cases hlj'
      have h1 := hOj.blk_lt hlj
      have h2 := hnew hlv
      omega
    · have hD' : D q := hD.resolve_right hqi
      obtain ⟨l', h1, h2⟩ := hI.ins q g' v' ob' hk' hD'
      refine ⟨l', by rw [hother q hqi]; exact h1, fun hu => ?_⟩
      obtain ⟨h3, h4⟩ := h2 hu
      refine ⟨(h3.keepW hF.keep).mono hle, fun hlv => ⟨(h4 hlv).1, fun j oj lj hj hlj hlo => ?_⟩⟩
      rw [Env.put_other l (hnoid j oj hj)] at hlo
      exact (h4 hlv).2 j oj lj hj hlj hlo
  · -- two blocks made
    have old : ∀ q g v ob l', kd q = .new g v ob → D q → Unlaid ops kd q m → live ob → E.loc (base + q) = some l' → l'.blk < w.heap.size := by
      intro q g v ob l' hkq hDq hu hlv hl'
      obtain ⟨l2, e1, e2⟩ := hI.ins q g v ob hkq hDq
      rw [hl'] at e1; cases e1
      exact (e2 hu).1.blk_lt hlv
    by_cases hq : q = i
    · subst hq
      rw [hk] at hk1; cases hk1
      rw [Env.put_same] at hl1; cases hl1
      have hq' : q' ≠ q := Ne.symm hne
      rw [hother q' hq'] at hl2
      have h1 := old q' g2 v2 ob2 l2 hk2 (hD2.resolve_right hq') hu2 hlv2 hl2
      have h2 := hnew hlv1
      omega
    · rw [hother q hq] at hl1
      by_cases hq' : q' = i
      · subst hq'
        rw [hk] at hk2; cases hk2
        rw [Env.put_same] at hl2; cases hl2
        have h1 := old q g1 v1 ob1 l1 hk1 (hD1.resolve_right hq) hu1 hlv1 hl1
        have h2 := hnew hlv2
        omega
      · rw [hother q' hq'] at hl2
        exact hI.dist q q' g1 v1 ob1 g2 v2 ob2 l1 l2 hk1 hk2 (hD1.resolve_right hq) (hD2.resolve_right hq') hne hu1 hu2 hlv1 hlv2 hl1 hl2
end
end Go.Ev
namespace Go.Ev
section
variable {C : Cx} {R : Iv} {rnd : Option Nat} {sz : Nat} {ops : List Oper} {base : Nat} {W : T Nat} {st : Nat → DS} {kd : Nat → Kd}
theorem Tr.actsBef (h : Tr C R rnd sz ops base W st kd) {i : Nat} (hi : i < ops.length) (hk : isActK (kd i)) {q : Nat} (hq : q < i) (hkq : isActK (kd q)) : bef (masks ops) q i = true := by
  obtain ⟨o, ho⟩ := h.op hi
  have hK := h.kind i o ho
  cases hkd : kd i with
  | act f v =>
    rw [hkd] at hK
    obtain ⟨_, _, _, hacts, _⟩ := hK
    have := hacts _ (h.acts i (Nat.le_of_lt hi) q hq hkq)
    rwa [h.jj i (Nat.le_of_lt hi)] at this
  | _ => rw [hkd] at hk; exact absurd hk (by simp [isActK])
/-- An act that is ready comes behind all the acts ahead of it in the text, and no other is done. -/
theorem Tr.actCut (h : Tr C R rnd sz ops base W st kd) {D : Nat → Prop} (hC : Cl ops D) {i m : Nat} {o : Oper} (hr : Rdy ops D i o) (hk : isActK (kd i)) (hU : Upto kd D ops.length m) :
    Upto kd D ops.length i ∧ m ≤ i ∧ (∀ q, m ≤ q → q < i → ¬ isActK (kd q)) := by
  have hi : i < ops.length := (List.getElem?_eq_some_iff.1 hr.op).1
  have hsub : ∀ q, q < i → isActK (kd q) → D q := fun q hq hkq => hr.bef hC (h.actsBef hi hk hq hkq)
  have hsup : ∀ q, D q → isActK (kd q) → q < i := by
    intro q hD hkq
    rcases Nat.lt_or_ge q i with h1 | h1
    · exact h1
    · exfalso
      by_cases e : q = i
      · subst e; exact hr.new hD
      · exact hr.new (hC.bef hD (h.actsBef (hC.lt q hD) hkq (by omega) hk))
  have hmi : m ≤ i := by
    rcases Nat.lt_or_ge i m with h1 | h1
    · exact absurd (hU.sub i h1 hk) hr.new
    · exact h1
  exact ⟨⟨Nat.le_of_lt hi, hsub, hsup⟩, hmi, fun q h1 h2 hkq => by have := hU.sup q (hsub q h2 hkq) hkq; omega⟩
theorem InvE.recut (h : Tr C R rnd sz ops base W st kd) {dfs : List ADef} {E0 E : Env} {S0 : AW} {w0 w : World} {D : Nat → Prop} {m i : Nat} {a : Act} (hI : InvE C sz ops base W st kd dfs E0 S0 w0 D E m a w) (hU : Upto kd D ops.length i) (hmi : m ≤ i) (hno : ∀ q, m ≤ q → q < i → ¬ isActK (kd q)) : InvE C sz ops base W st kd dfs E0 S0 w0 D E i a w := by
  have hS : (st i).S = (st m).S := h.SSame i hmi hU.le hno
  have hu : ∀ q, Unlaid ops kd q i → Unlaid ops kd q m := fun q hq a h1 h2 hk => hq a h1 (by omega) hk
  exact ⟨hU, hI.ty, by rw [hS]; exact hI.sim, hI.size, hI.tmp, hI.dfr, by rw [hS]; exact hI.grow, by rw [hS]; exact hI.next, hI.out, fun q g v ob hk hD => by
      obtain ⟨l, h1, h2⟩ := hI.ins q g v ob hk hD
      rw [hS]
      exact ⟨l, h1, fun hq => h2 (hu q hq)⟩, fun q q' g v ob g' v' ob' l l' h1 h2 h3 h4 h5 h6 h7 => hI.dist q q' g v ob g' v' ob' l l' h1 h2 h3 h4 h5 (hu q h6) (hu q' h7)⟩
end
end Go.Ev
namespace Go.Ev
section
variable {C : Cx} {R : Iv} {rnd : Option Nat} {sz : Nat} {ops : List Oper} {base : Nat} {W : T Nat} {st : Nat → DS} {kd : Nat → Kd}
/-- Memory with some of the blocks laid: those that B takes. -/
structure Laid (C : Cx) (ops : List Oper) (base : Nat) (st : Nat → DS) (kd : Nat → Kd) (D : Nat → Prop) (E : Env) (w : World) (i : Nat) (B : Nat → Prop) (S : AW) : Prop where
  sim : Sim E S w
  next : S.next = (st i).S.next
  get : ∀ j o, S.heap.get j = some o → (st i).S.heap.get j = some o ∨ ∃ q g v, kd q = .new g v o ∧ D q ∧ Unlaid ops kd q i ∧ B q ∧ j = base + q
theorem Laid.step {dfs : List ADef} {E0 E : Env} {S0 S : AW} {w0 w : World} {D : Nat → Prop} {i : Nat} {a : Act} {B : Nat → Prop} (hI : InvE C sz ops base W st kd dfs E0 S0 w0 D E i a w) (hL : Laid C ops base st kd D E w i B S) {p : Pd} (hp : Made ops base kd i p) (hD : D p.j) (hB : B p.j) : Laid C ops base st kd D E w i B (S.put p.id p.o) := by
  obtain ⟨_, ⟨g, v, hk⟩, hid, hun⟩ := hp
  have hu : Unlaid ops kd p.j i := hun
  obtain ⟨l, hl, h2⟩ := hI.ins p.j g v p.o hk hD
  obtain ⟨hO, hlv⟩ := h2 hu
  refine ⟨hL.sim.lay (by rw [hid]; exact hl) hO (fun hlive j oj lj hj hjl hlj hb => ?_), hL.next, fun j oj hj => ?_⟩
  · rcases hL.get j oj hj with h | ⟨q, g', v', hkq, hDq, huq, _, rfl⟩
    · exact absurd hb ((hlv hlive).2 j oj lj h hjl hlj)
    · by_cases e : q = p.j
      · rw [hid, e]
      · exact absurd hb (hI.dist q p.j g' v' oj g v p.o lj l hkq hk hDq hD e huq hu hjl hlive hlj hl)
  · simp only [AW.put, T.get_set] at hj
    by_cases e : j = p.id
    · rw [if_pos e] at hj
      cases hj
      exact .inr ⟨p.j, g, v, hk, hD, hu, hB, by rw [e, hid]⟩
    · rw [if_neg e] at hj
      exact hL.get j oj hj
theorem layPend_eq (M : T Nat) (j : Nat) (p : Pd) (ps : List Pd) (S : AW) : layPend M j (p :: ps) S = layPend M j ps (iteB (bef M p.j j) (S.put p.id p.o) S) := rfl
theorem Laid.all {dfs : List ADef} {E0 E : Env} {S0 : AW} {w0 w : World} {D : Nat → Prop} {i : Nat} {a : Act} (hI : InvE C sz ops base W st kd dfs E0 S0 w0 D E i a w) (hB : ∀ q, bef (masks ops) q i = true → D q) :
    ∀ (ps : List Pd) (S : AW), (∀ p ∈ ps, Made ops base kd i p) → Laid C ops base st kd D E w i (fun q => bef (masks ops) q i = true) S → Laid C ops base st kd D E w i (fun q => bef (masks ops) q i = true) (layPend (masks ops) i ps S)
  | [], S, _, h => h
  | p :: ps, S, hps, h => by
    rw [layPend_eq]
    refine Laid.all hI hB ps _ (fun q hq => hps q (by simp [hq])) ?_
    cases hb : bef (masks ops) p.j i with
    | true => rw [iteB_true]; exact h.step hI (hps p (by simp)) (hB p.j hb) hb
    | false => rw [iteB_false]; exact h
theorem Laid.start {dfs : List ADef} {E0 E : Env} {S0 : AW} {w0 w : World} {D : Nat → Prop} {i : Nat} {a : Act} (hI : InvE C sz ops base W st kd dfs E0 S0 w0 D E i a w) (B : Nat → Prop) : Laid C ops base st kd D E w i B (st i).S := ⟨hI.sim, rfl, fun _ _ h => .inl h⟩
/-- Memory has grown but by blocks of its own. -/
theorem Laid.grow {dfs : List ADef} {E0 E : Env} {S0 S : AW} {w0 w : World} {D : Nat → Prop} {i : Nat} {a : Act} {B : Nat → Prop} (hI : InvE C sz ops base W st kd dfs E0 S0 w0 D E i a w) (hL : Laid C ops base st kd D E w i B S) : Grow base E0 S0 w0 E S w := by
  have hg := hI.grow
  refine ⟨hg.le, hg.os, hg.tape, hg.output, hg.size, hg.keep, fun j o l hj hlv hl => ?_, by rw [hL.next]; exact hg.next, hg.fresh⟩
  rcases hL.get j o hj with h | ⟨q, g, v, hk, hD, hu, _, rfl⟩
  · exact hg.own j o l h hlv hl
  · obtain ⟨l', h1, h2⟩ := hI.ins q g v o hk hD
    rw [hl] at h1; cases h1
    exact .inl ((h2 hu).2 hlv).1
end
end Go.Ev
namespace Go.Ev
section
variable {C : Cx} {R : Iv} {rnd : Option Nat} {sz : Nat} {ops : List Oper} {base : Nat} {W : T Nat} {st : Nat → DS} {kd : Nat → Kd}
theorem InvE.act (h : Tr C R rnd sz ops base W st kd) {dfs : List ADef} {E0 E E' : Env} {S0 SL : AW} {w0 w w' : World} {D : Nat → Prop} {i : Nat} {a : Act} {o : Oper} {f : AH} {v : AV} {x : Value} (hI : InvE C sz ops base W st kd dfs E0 S0 w0 D E i a w) (ho : ops[i]? = some o) (hk : kd i = .act f v)
    (hp : putT sz o.dst v (st i).tm = some (st (i + 1)).tm) (hL : Laid C ops base st kd D E w i (fun q => bef (masks ops) q i = true) SL) (hx : VR E' v x) (hS : Sim E' (st (i + 1)).S w') (hG : Grow SL.next E SL w E' (st (i + 1)).S w') :
    InvE C sz ops base W st kd dfs E0 S0 w0 (fun j => D j ∨ j = i) E' (i + 1) (a.put o.dst x) w' := by
  have hi : i < ops.length := (List.getElem?_eq_some_iff.1 ho).1
  have hnn : ∀ g v' ob, kd i ≠ .new g v' ob := by intro g v' ob e; rw [hk] at e; cases e
  have hka : isActK (kd i) := by rw [hk]; trivial
  have hnx : base + ops.length ≤ SL.next := by rw [hL.next]; exact hI.next
  have hu : ∀ q, Unlaid ops kd q (i + 1) → Unlaid ops kd q i := fun q hq b h1 h2 h3 => hq b h1 (by omega) h3
  have hub : ∀ q g v' ob, kd q = .new g v' ob → Unlaid ops kd q (i + 1) → bef (masks ops) q i = false := by
    intro q g v' ob hkq hq
    rcases Nat.lt_or_ge q i with h1 | h1
    · exact hq i h1 (Nat.lt_succ_self i) hka
    · cases hb : bef (masks ops) q i with
      | false => rfl
      | true => have := bef_lt h.edges i hb; omega
  -- a block that is not laid is no one's
  have apart : ∀ q g v' ob l, kd q = .new g v' ob → D q → Unlaid ops kd q (i + 1) → live ob → E.loc (base + q) = some l → ∀ j oj lj, SL.heap.get j = some oj → live oj → E.loc j = some lj → lj.blk ≠ l.blk := by
    intro q g v' ob l hkq hDq hq hlv hl j oj lj hj hjl hlj
    obtain ⟨l', e1, e2⟩ := hI.ins q g v' ob hkq hDq
    rw [hl] at e1; cases e1
    rcases hL.get j oj hj with h1 | ⟨q', g', v'', hk', hD', hu', hb', rfl⟩
    · exact ((e2 (hu q hq)).2 hlv).2 j oj lj h1 hjl hlj
    · have hne : q' ≠ q := by
        rintro rfl
        have := hub q' g v' ob hkq hq
        have hb' : bef (masks ops) q' i = true := hb'
        rw [this] at hb'; cases hb'
      exact hI.dist q' q g' v'' oj g v' ob lj l hk' hkq hD' hDq hne hu' (hu q hq) hjl hlv hlj hl
  have locs : ∀ q g v' ob, kd q = .new g v' ob → D q → ∃ l, E.loc (base + q) = some l ∧ E'.loc (base + q) = some l := by
    intro q g v' ob hkq hDq
    obtain ⟨l, h1, _⟩ := hI.ins q g v' ob hkq hDq
    exact ⟨l, h1, hG.le.loc _ _ h1⟩
  refine ⟨⟨hi, fun q hq hkq => ?_, fun q hD hkq => ?_⟩, hI.ty, hS, by rw [put_size]; exact hI.size, h.tmpPut ho hp hI.size (fun t v ht => VR.mono hG.le _ _ (hI.tmp t v ht)) hx, by rw [put_defers]; exact hI.dfr.mono hG.le,
    (hL.grow hI).trans (hG.less (by omega)), Nat.le_trans hnx hG.next, fun q g v' ob hq hkq hD => ?_, fun q g v' ob hkq hD => ?_, fun q q' g1 v1 ob1 g2 v2 ob2 l1 l2 hk1 hk2 hD1 hD2 hne hu1 hu2 hlv1 hlv2 hl1 hl2 => ?_⟩
  · by_cases e : q = i
    · exact .inr e
    · exact .inl (hI.upto.sub q (by omega) hkq)
  · rcases hD with hD | rfl
    · have := hI.upto.sup q hD hkq; omega
    · exact Nat.lt_succ_self _
  · exact hG.fresh _ (by omega) (hI.out q g v' ob hq hkq fun hd => hD (.inl hd))
  · have hDq : D q := by
      rcases hD with hD | rfl
      · exact hD
      · exact absurd hkq (hnn g v' ob)
    obtain ⟨l, h1, h2⟩ := hI.ins q g v' ob hkq hDq
    refine ⟨l, hG.le.loc _ _ h1, fun hq => ?_⟩
    obtain ⟨hO, hlv⟩ := h2 (hu q hq)
    by_cases hlive : live ob
    · have hlt := hO.blk_lt hlive
      have hap := apart q g v' ob l hkq hDq hq hlive h1
      have hkeep := hG.keep l.blk hlt fun j oj lj hj hw hlj => hap j oj lj hj (live_of_wr hw) hlj
      refine ⟨(hO.mono hG.le).heap hkeep, fun _ => ⟨(hlv hlive).1, fun j oj lj hj hjl hlj hb => ?_⟩⟩
      rcases hG.own j oj lj hj hjl hlj with h3 | ⟨j2, o2, l2, hj2, hl2, he2, hb2, _⟩
      · omega
      · exact hap j2 o2 l2 hj2 hl2 he2 (hb2.trans hb)
    · cases ob <;> first | exact ⟨trivial, fun h => absurd h hlive⟩ | exact absurd trivial hlive
  · have hDq : D q := by
      rcases hD1 with hD | rfl
      · exact hD
      · exact absurd hk1 (hnn g1 v1 ob1)
    have hDq' : D q' := by
      rcases hD2 with hD | rfl
      · exact hD
      · exact absurd hk2 (hnn g2 v2 ob2)
    obtain ⟨m1, e1, e1'⟩ := locs q g1 v1 ob1 hk1 hDq
    obtain ⟨m2, e2, e2'⟩ := locs q' g2 v2 ob2 hk2 hDq'
    rw [hl1] at e1'; cases e1'
    rw [hl2] at e2'; cases e2'
    exact hI.dist q q' g1 v1 ob1 g2 v2 ob2 l1 l2 hk1 hk2 hDq hDq' hne (hu q hu1) (hu q' hu2) hlv1 hlv2 e1 e2
end
end Go.Ev
namespace Go.Ev
section
variable {C : Cx} {R : Iv} {rnd : Option Nat} {sz : Nat} {ops : List Oper} {base : Nat} {W : T Nat} {st : Nat → DS} {kd : Nat → Kd}
theorem Tr.wanted (h : Tr C R rnd sz ops base W st kd) {D : Nat → Prop} (hC : Cl ops D) {i : Nat} {o : Oper} (hr : Rdy ops D i o) {b : Bool} (hw : wantedV ops (st i).tm o = some b) {E : Env} {a : Act} (hT : ∀ t v, TmD ops W st D t v → VR E v (a.tmps.getD t undef)) : Region.wanted o (yielded ops.toArray a.tmps) = b := by
  cases hg : o.guard with
  | none =>
    simp only [wantedV, hg, oel_none, Option.some.injEq] at hw
    subst hw
    simp [Region.wanted, hg]
  | some g =>
    simp only [wantedV, hg, oel_some] at hw
    have hgd := hw
    simp only [guardV, ob_some, lget_eq] at hgd
    obtain ⟨og, hog, t, hdt, v, hv, _⟩ := hgd
    have hwt : W.get t = some g.1 := (h.wr t g.1).2 ⟨og, hog, hdt⟩
    have hTmD := h.same hC hr (fun q hq => by rw [hwt] at hq; cases hq; exact .inl (h.guard hr.op hg)) hv
    have hg2 : guardV ops (cutTm (st i).tm [t]) g = some b := by
      have hc : (cutTm (st i).tm [t]).get t = (st i).tm.get t := by rw [cutTm_get]; simp
      have e : ∀ tm : T AV, guardV ops tm g = ob (tm.get t) fun v => oel (ob (dTup v) fun vs => tst (isEmpty vs) (some false)) (dBool v) fun b => some (beqB b g.2) := by
        intro tm
        simp only [guardV, lget_eq, hog, ob_mk, hdt]
      rw [e, hc, ← e]
      exact hw
    have hTR : TR E a.tmps.size (cutTm (st i).tm [t]) a.tmps := by
      refine ⟨rfl, fun t' v' hv' => ?_⟩
      rw [cutTm_get] at hv'
      by_cases e : t' ∈ [t]
      · rw [if_pos e] at hv'
        simp at e
        subst e
        rw [hv] at hv'; cases hv'
        exact hT _ _ hTmD
      · rw [if_neg e] at hv'; cases hv'
    unfold Region.wanted
    rw [hg]
    exact guardV_sound hg2 hTR
end
end Go.Ev
namespace Go.Ev
section
variable {C : Cx} {R : Iv} {rnd : Option Nat} {sz : Nat} {ops : List Oper} {base : Nat} {W : T Nat} {st : Nat → DS} {kd : Nat → Kd}
theorem InvE.op (h : Tr C R rnd sz ops base W st kd) {F : Fence} {n : Nat} {dfs : List ADef} {E0 E : Env} {S0 : AW} {w0 w : World} {D : Nat → Prop} {m i : Nat} {a : Act} {o : Oper} {K : Act → World → Prop} {Q : Exit → Act → World → Prop} (hF : RndOk E0 rnd F) (hC : Cl ops D) (hr : Rdy ops D i o) (hI : InvE C sz ops base W st kd dfs E0 S0 w0 D E m a w)
    (hK : ∀ E' m' a' w', InvE C sz ops base W st kd dfs E0 S0 w0 (fun j => D j ∨ j = i) E' m' a' w' → K a' w') : wpOpIn F n C.P ops.toArray Q i K a w := by
  have hi : i < ops.length := (List.getElem?_eq_some_iff.1 hr.op).1
  have hFE : RndOk E rnd F := hF.mono hI.grow.le
  have hkind := h.kind i o hr.op
  have hcut := cut_same (st i).tm o
  have hAt : ∀ S', Sim E S' w → At C E S' w (cutTm (st i).tm (tempsOf o)) a := fun S' hS' => ⟨hI.ty, hS', h.cutTR hC hr hI.tmp⟩
  have hio : ops.toArray[i]? = some o := by simpa using hr.op
  unfold wpOpIn
  simp only [hio]
  cases hkd : kd i with
  | pure v =>
    rw [hkd] at hkind
    obtain ⟨⟨tm', hp, e⟩, hcase⟩ := hkind
    have hp' : putT sz o.dst v (st i).tm = some (st (i + 1)).tm := by rw [e]; exact hp
    have hna : ¬ isActK (kd i) := by rw [hkd]; simp [isActK]
    have hnn : ∀ g v' ob, kd i ≠ .new g v' ob := by intro g v' ob e; rw [hkd] at e; cases e
    rcases hcase with ⟨hw, rfl⟩ | ⟨hw, f, h1, h2, h3, h4⟩
    · rw [h.wanted hC hr hw hI.tmp]
      simp only [Bool.false_eq_true, if_false]
      exact ⟨fun f _ => hFE.fn f, hK E m _ w (hI.quiet h hr.op hp' (VR_undef E) hna hnn)⟩
    · rw [h.wanted hC hr hw hI.tmp]
      simp only [if_true]
      obtain ⟨x, hx1, hx2⟩ := h1 rfl (hAt _ hI.sim) (v := v) (by rw [h2 hcut (S2 := (st i).S) (by simp)]; exact h4)
      exact wpIn_value (fun f => hFE.fn f) h3 hx1 (hK E m _ w (hI.quiet h hr.op hp' hx2 hna hnn))
  | rdr f v =>
    rw [hkd] at hkind
    obtain ⟨hw, h1, h2, h3, h4, hacts, tm', hp, e⟩ := hkind
    have hp' : putT sz o.dst v (st i).tm = some (st (i + 1)).tm := by rw [e]; exact hp
    have hna : ¬ isActK (kd i) := by rw [hkd]; simp [isActK]
    have hnn : ∀ g v' ob, kd i ≠ .new g v' ob := by intro g v' ob e; rw [hkd] at e; cases e
    rw [h.jj i (Nat.le_of_lt hi)] at hacts
    have hrd := h.readAt hC hr hI.upto hkd hacts h4
    rw [h.wanted hC hr hw hI.tmp]
    simp only [if_true]
    obtain ⟨x, hx1, hx2⟩ := h1 rfl (hAt _ hI.sim) (v := v) (by rw [h2 hcut (fun _ => rfl)]; exact hrd)
    exact wpIn_value (fun f => hFE.fn f) h3 hx1 (hK E m _ w (hI.quiet h hr.op hp' hx2 hna hnn))
  | new g v ob =>
    rw [hkd] at hkind
    obtain ⟨hw, h1, h2, h3, h4, tm', hp, e⟩ := hkind
    have hp' : putT sz o.dst v (st i).tm = some (st (i + 1)).tm := by rw [e]; exact hp
    rw [h.jj i (Nat.le_of_lt hi)] at h4
    rw [h.wanted hC hr hw hI.tmp]
    simp only [if_true]
    obtain ⟨x, w', l, hx1, hx2, hx3⟩ := h1 rfl (hAt _ hI.sim) (hI.out i g v ob hi hkd hr.new) (v := v) (ob := ob) (by rw [h2 hcut]; exact h4)
    exact wpIn_value (fun f => hFE.fn f) h3 hx1 (hK _ m _ w' (hI.new h hr.op hr.new hp' hkd hx2 hx3))
  | act f v =>
    rw [hkd] at hkind
    obtain ⟨hw, h1, h2, hacts, S1, h4, hreads, tm', hp, e⟩ := hkind
    have hp' : putT sz o.dst v (st i).tm = some (st (i + 1)).tm := by rw [e]; exact hp
    have hS1 : (st (i + 1)).S = S1 := by rw [e]
    obtain ⟨hU, hmi, hno⟩ := h.actCut hC hr (by rw [hkd]; trivial) hI.upto
    have hI' := hI.recut h hU hmi hno
    have hL := Laid.all hI' (fun q hb => hr.bef hC hb) (st i).pend (st i).S (fun p hp => (h.pend i (Nat.le_of_lt hi) p).1 hp) (Laid.start hI' _)
    rw [h.jj i (Nat.le_of_lt hi)] at h4
    rw [h.wanted hC hr hw hI.tmp]
    simp only [if_true]
    refine h1 hFE (hAt _ hL.sim) (v := v) (S' := S1) (by rw [h2 hcut]; exact h4) K Q fun x w' E' hx1 hx2 hx3 => ?_
    exact hK E' (i + 1) _ w' (hI'.act h hr.op hkd hp' hL hx1 (by rw [hS1]; exact hx2) (by rw [hS1]; exact hx3))
end
end Go.Ev
namespace Go.Ev
def left (l : Array Bool) : Nat := (l.toList.filter (fun b => !b)).length
theorem left_set {l : Array Bool} {i : Nat} (h : l[i]? = some false) : left (l.setIfInBounds i true) + 1 = left l := by
  have hi : i < l.size := (Array.getElem?_eq_some_iff.1 h).1
  unfold left
  rw [Array.toList_setIfInBounds]
  have key : ∀ (xs : List Bool) (i : Nat), xs[i]? = some false → ((xs.set i true).filter (fun b => !b)).length + 1 = (xs.filter (fun b => !b)).length := by
    intro xs
    induction xs with
    | nil => intro i h; simp at h
    | cons x xs ih =>
      intro i h
      cases i with
      | zero => simp at h; subst h; simp
      | succ i =>
        have := ih i (by simpa using h)
        cases x <;> simp only [List.set_cons_succ, List.filter_cons, Bool.not_false, Bool.not_true, if_true, Bool.false_eq_true, if_false, List.length_cons] <;> omega
  exact key l.toList i (by simpa using h)
section
variable {C : Cx} {R : Iv} {rnd : Option Nat} {sz : Nat} {ops : List Oper} {base : Nat} {W : T Nat} {st : Nat → DS} {kd : Nat → Kd}
def InL (l : Array Bool) (i : Nat) : Prop := l.getD i false = true
theorem ready_iff {l : Array Bool} {i : Nat} (hl : l.size = ops.length) : i ∈ Region.ready .any ops.toArray l ↔ ∃ o, Rdy ops (InL l) i o := by
  unfold Region.ready
  simp only [List.mem_filter, List.mem_range, List.size_toArray, Bool.and_eq_true, Bool.not_eq_true', List.getElem?_toArray]
  constructor
  · rintro ⟨hi, hn, he⟩
    refine ⟨ops[i], by simp [hi], ?_, fun e hm hb => ?_⟩
    · intro hc
      unfold InL at hc
      rw [Array.getD_eq_getD_getElem?] at hc hn
      have : i < l.size := by omega
      simp [this] at hc hn
      rw [hn] at hc; cases hc
    · simp only [List.getElem?_eq_getElem hi, Option.map_some, Option.getD_some, Array.all_eq_true'] at he
      have := he e (by simpa using hm)
      rw [binds_any, hb] at this
      simpa [InL] using this
  · rintro ⟨o, ho, hn, he⟩
    have hi : i < ops.length := (List.getElem?_eq_some_iff.1 ho).1
    refine ⟨hi, ?_, ?_⟩
    · unfold InL at hn
      rw [Array.getD_eq_getD_getElem?] at hn ⊢
      have : i < l.size := by omega
      simp [this] at hn ⊢
      exact hn
    · rw [ho]
      simp only [Option.map_some, Option.getD_some, Array.all_eq_true']
      intro e hm
      rw [binds_any]
      cases hb : bindsAny e with
      | false => rfl
      | true => simpa [InL] using he e (by simpa using hm) hb
theorem InL_set {l : Array Bool} {i : Nat} (hi : i < l.size) : InL (l.setIfInBounds i true) = fun j => InL l j ∨ j = i := by
  funext j
  unfold InL
  simp only [Array.getD_eq_getD_getElem?]
  by_cases e : j = i
  · subst e; simp [hi]
  · rw [Array.getElem?_setIfInBounds_ne (Ne.symm e)]; simp [e]
/-- Where not all is done, something is ready. -/
theorem ready_all {l : Array Bool} (hl : l.size = ops.length) (hE : ∀ j o, ops[j]? = some o → ∀ e ∈ o.after.toList, bindsAny e = true → e.on < j) (hr : Region.ready .any ops.toArray l = []) : ∀ i, i < ops.length → InL l i := by
  intro i
  induction i using Nat.strongRecOn with
  | _ i ih =>
    intro hi
    apply Classical.byContradiction
    intro hn
    have ho : ops[i]? = some ops[i] := by simp [hi]
    have hm : i ∈ Region.ready .any ops.toArray l := (ready_iff hl).2 ⟨_, ho, hn, fun e he hb => by
      have hlt := hE i _ ho e he hb
      exact ih e.on hlt (by omega)⟩
    rw [hr] at hm; cases hm
theorem any_ok (h : Tr C R rnd sz ops base W st kd) {F : Fence} {n : Nat} {dfs : List ADef} {E0 : Env} {S0 : AW} {w0 : World} {Q : Exit → Act → World → Prop} (hF : RndOk E0 rnd F)
    (hQ : ∀ E m a w D, (∀ i, i < ops.length → D i) → InvE C sz ops base W st kd dfs E0 S0 w0 D E m a w → Q .normal a w) :
    ∀ (fuel : Nat) {l : Array Bool} {E : Env} {m : Nat} {a : Act} {w : World}, l.size = ops.length → left l ≤ fuel → Cl ops (InL l) → InvE C sz ops base W st kd dfs E0 S0 w0 (InL l) E m a w → wpAnyIn F n C.P .any ops.toArray Q fuel l a w
  | 0, l, E, m, a, w, hl, hc, hC, hI => by
    have hall : ∀ i, i < ops.length → InL l i := by
      intro i hi
      apply Classical.byContradiction
      intro hn
      have hf : l[i]? = some false := by
        unfold InL at hn
        rw [Array.getD_eq_getD_getElem?] at hn
        have : i < l.size := by omega
        simp [this] at hn ⊢
        exact hn
      have := left_set hf
      omega
    refine ⟨?_, hQ E m a w _ hall hI⟩
    apply List.eq_nil_iff_forall_not_mem.2
    intro i hi
    obtain ⟨o, hr⟩ := (ready_iff hl).1 hi
    exact hr.new (hall i (List.getElem?_eq_some_iff.1 hr.op).1)
  | fuel + 1, l, E, m, a, w, hl, hc, hC, hI => by
    refine ⟨fun hr => hQ E m a w _ (ready_all hl h.edges hr) hI, fun i hi => ?_⟩
    obtain ⟨o, hr⟩ := (ready_iff hl).1 hi
    have hlt : i < ops.length := (List.getElem?_eq_some_iff.1 hr.op).1
    refine hI.op h hF hC hr fun E' m' a' w' hI' => ?_
    have hf : l[i]? = some false := by
      have hn := hr.new
      unfold InL at hn
      rw [Array.getD_eq_getD_getElem?] at hn
      have : i < l.size := by omega
      simp [this] at hn ⊢
      exact hn
    have hs := left_set hf
    have hset := InL_set (l := l) (i := i) (by omega)
    exact any_ok h hF hQ fuel (by simpa using hl) (by omega) (by rw [hset]; exact hr.cl hC) (by rw [hset]; exact hI')
end
end Go.Ev
namespace Go.Ev
theorem inL_none (n i : Nat) : ¬ InL (Array.replicate n false) i := by
  unfold InL
  rw [Array.getD_eq_getD_getElem?, Array.getElem?_replicate]
  split <;> simp
theorem Laid.fold {C : Cx} {sz : Nat} {ops : List Oper} {base : Nat} {W : T Nat} {st : Nat → DS} {kd : Nat → Kd} {dfs : List ADef} {E0 E : Env} {S0 : AW} {w0 w : World} {D : Nat → Prop} {i : Nat} {a : Act} (hI : InvE C sz ops base W st kd dfs E0 S0 w0 D E i a w) (hD : ∀ q, q < i → D q) :
    ∀ (ps : List Pd) (S : AW), (∀ p ∈ ps, Made ops base kd i p) → Laid C ops base st kd D E w i (fun _ => True) S → Laid C ops base st kd D E w i (fun _ => True) (lfold (fun (S : AW) (p : Pd) => S.put p.id p.o) ps S)
  | [], S, _, h => h
  | p :: ps, S, hps, h => by
    rw [lfold_cons]
    exact Laid.fold hI hD ps _ (fun q hq => hps q (by simp [hq])) (h.step hI (hps p (by simp)) (hD _ (hps p (by simp)).1) trivial)
theorem draw_ok {C : Cx} {R : Iv} (hR : IvOk C R) (hm : C.P.follows .mixedOrders = true) : DrawOk C R := by
  intro rnd F n id ops E S w sz x tm tm' dfs dfs' S' act h hF hA hsz
  obtain ⟨W, hW, h1⟩ := orNo_some (show orNo (writers ops.toList) _ = _ from h) (by simp)
  obtain ⟨s, hs, h2⟩ := orNo_some h1 (by simp)
  obtain ⟨st, kd, hT, e0, en⟩ := mkTr hR hW hs
  obtain ⟨hW2, _⟩ := writers_ok hW
  cases h2
  have hops : ops.toList.toArray = ops := by simp
  have hl : ops.toList.length = ops.size := by simp
  refine wpIn_region_any hm ?_
  rw [← hops]
  refine any_ok hT hF (E0 := E) (S0 := S) (w0 := w) (dfs := dfs) (fun E1 m a w1 D hall hI => ?_) _ (by simp) ?_ ?_ (E := E) (m := 0) ?_
  · have hU : Upto kd D ops.toList.length ops.toList.length := ⟨Nat.le_refl _, fun q hq _ => hall q hq, fun q hD hk => Nat.lt_of_lt_of_le (hI.upto.sup q hD hk) hI.upto.le⟩
    have hI' := hI.recut hT hU hI.upto.le (fun q h1 h2 hk => by have := hI.upto.sup q (hall q h2) hk; omega)
    have hL := Laid.fold hI' hall (st ops.toList.length).pend (st ops.toList.length).S (fun p hp => (hT.pend _ (Nat.le_refl _) p).1 hp) (Laid.start hI' _)
    have hTMP : TR E1 a.tmps.size (st ops.toList.length).tm a.tmps := by
      refine ⟨rfl, fun t v hv => hI'.tmp t v ?_⟩
      cases hw : W.1.get t with
      | none =>
        right
        refine ⟨fun q hq => (by rw [hw] at hq; cases hq), ?_⟩
        rw [← hT.before (Nat.le_refl _) (fun q hq => by rw [hw] at hq; cases hq)]
        exact hv
      | some q =>
        left
        obtain ⟨o, ho, _⟩ := (hT.wr t q).1 hw
        exact ⟨q, hw, hall q (List.getElem?_eq_some_iff.1 ho).1, hv⟩
    rw [en] at hL hTMP
    exact ⟨rfl, E1, { ty := hI'.ty, sim := hL.sim, tmp := hTMP, dfr := hI'.dfr }, hI'.size, hL.grow hI'⟩
  · unfold left; simp
  · exact ⟨fun j hj => absurd hj (inL_none _ _), fun j o hj => absurd hj (inL_none _ _)⟩
  · have hST : (st 0).S = { heap := S.heap, next := Nat.add S.next W.2 } := by rw [e0]
    have hTM : (st 0).tm = tm := by rw [e0]
    refine { upto := ⟨Nat.zero_le _, fun q h => absurd h (Nat.not_lt_zero q), fun q hD => absurd hD (inL_none _ _)⟩, ty := hA.ty, sim := ?_, size := hsz, tmp := fun t v ht => ?_, dfr := hA.dfr, grow := ?_, next := ?_, out := fun q g v ob hq hk hD => hA.sim.new _ (Nat.le_add_right _ _), ins := fun q g v ob hk hD => absurd hD (inL_none _ _), dist := fun q q' g v ob g' v' ob' l l' hk hk' hD => absurd hD (inL_none _ _) }
    · rw [hST]
      exact (hA.sim.drew).weaken (fun i o hi => hi) (Nat.le_add_right _ _)
    · rcases ht with ⟨q, _, hD, _⟩ | ⟨_, hv⟩
      · exact absurd hD (inL_none _ _)
      · rw [hTM] at hv
        exact hA.tmp.2 t v hv
    · rw [hST]
      exact ⟨Le.refl E, rfl, rfl, rfl, Nat.le_refl _, fun _ _ _ => rfl, fun i o l hi hl he => .inr ⟨i, o, l, hi, hl, he, rfl, fun x => x⟩, Nat.le_add_right _ _, fun _ _ h => h⟩
    · rw [hST]
      show S.next + ops.toList.length ≤ S.next + W.2
      omega
end Go.Ev
namespace Go.Ev
theorem iv_true {C : Cx} (hC : COk C) (hm : C.P.follows .mixedOrders = true) (N n : Nat) : IvOk C (iv C N n) := iv_ok hC (fun _ hR => draw_ok hR hm) N n
end Go.Ev
namespace Go.Ev
theorem info_of {P : Program} {t : Nat} {i : TypeInfo} (h : P.types[t]? = some i) : P.info? t = some i := by
  have hlt : t < P.types.size := (Array.getElem?_eq_some_iff.1 h).1
  unfold Tables.info?
  rw [if_pos hlt, h]

theorem mkTT_ok (P : Program) : TTok P (mkTT P) := by
  have key : ∀ (l : List TypeInfo) (k : Nat) (s : T Ty), (∀ j, l[j]? = P.types[k + j]?) → (∀ t d, s.get t = some d → ∃ i u, P.types[t]? = some i ∧ P.underlying t = some u ∧ d = tyOf i u) →
      ∀ t d, (lfold (ttStep P) l (s, k)).1.get t = some d → ∃ i u, P.types[t]? = some i ∧ P.underlying t = some u ∧ d = tyOf i u := by
    intro l
    induction l with
    | nil => intro k s _ hs t d h; exact hs t d h
    | cons x l ih =>
      intro k s hl hs t d h
      rw [lfold_cons] at h
      refine ih (k + 1) _ (fun j => ?_) ?_ t d h
      · have := hl (j + 1)
        rw [List.getElem?_cons_succ] at this
        rw [this]; congr 1; omega
      · intro t d h
        show ∃ i u, _
        change (oel s (P.underlying k) fun u => s.set k (tyOf x u)).get t = some d at h
        cases hu : P.underlying k with
        | none => rw [hu, oel_none] at h; exact hs t d h
        | some u =>
          rw [hu, oel_some, T.get_set] at h
          by_cases e : t = k
          · rw [if_pos e] at h
            have h0 := hl 0
            simp at h0
            injection h with h
            exact ⟨x, u, by rw [e]; exact h0.symm, by rw [e]; exact hu, h.symm⟩
          · rw [if_neg e] at h
            exact hs t d h
  refine ⟨fun t d h => ?_⟩
  obtain ⟨i, u, h1, h2, rfl⟩ := key P.types.toList 0 .e (fun j => by simp) (fun t d h => by cases h) t d h
  refine ⟨i, info_of h1, h2, rfl, rfl, rfl, ?_⟩
  intro z hz
  change ob i.zero ofVal = some z at hz
  rw [ob_some] at hz
  obtain ⟨v, hv, hz⟩ := hz
  exact ⟨v, hv, ofVal_sound hz⟩
theorem mkFns_get {P : Program} {f : Nat} {fn : Func} (h : (mkFns P).get f = some fn) : P.funcs[f]? = some fn := by
  have key : ∀ (l : List Func) (k : Nat) (s : T Func), (∀ j, l[j]? = P.funcs[k + j]?) → (∀ t d, s.get t = some d → P.funcs[t]? = some d) →
      ∀ t d, (lfold (fun (s : T Func × Nat) (i : Func) => (s.1.set s.2 i, Nat.succ s.2)) l (s, k)).1.get t = some d → P.funcs[t]? = some d := by
    intro l
    induction l with
    | nil => intro k s _ hs t d h; exact hs t d h
    | cons x l ih =>
      intro k s hl hs t d h
      rw [lfold_cons] at h
      refine ih (k + 1) _ (fun j => ?_) ?_ t d h
      · have := hl (j + 1)
        rw [List.getElem?_cons_succ] at this
        rw [this]; congr 1; omega
      · intro t d h
        rw [T.get_set] at h
        by_cases e : t = k
        · rw [if_pos e] at h
          have h0 := hl 0
          simp at h0
          injection h with h
          rw [e, ← h]; exact h0.symm
        · rw [if_neg e] at h
          exact hs t d h
  exact key P.funcs.toList 0 .e (fun j => by simp) (fun t d h => by cases h) f fn h
end Go.Ev
namespace Go.Ev
/-- What a function without a body does. -/
structure ExtAt (P : Program) (f : FuncId) (fn : Func) (e : Array Value → Sem Value) : Prop where
  at_ : P.funcs[f]? = some fn
  notNum : (fn.name == "runtime.NumGoroutine") = false
  bare : fn.body = none
  noNext : Extern.findNext fn = none
  found : Extern.find fn = some e
theorem ExtAt.run {P : Program} {f : FuncId} {fn : Func} {e : Array Value → Sem Value} (h : ExtAt P f fn e) {args : Array Value} {v : Value} {w : World} (he : (e args).run P w = .ok v w) : (callFunc f args).run P w = .ok (.value v) w := by
  unfold callFunc
  simp only [Sem.run_bind, run_program, Result.andThen_ok, h.at_, h.notNum, Bool.false_eq_true, if_false, h.bare, Option.isNone_none, if_true, run_mark, h.noNext, h.found, he, Sem.run_pure]
theorem idxB_eq (c : Nat) (s : List Nat) : idxB c s = match s.findIdx? (fun b => b == c) with | some i => (i : Int) | none => -1 := by
  have key : ∀ (s : List Nat) (k : Nat) (o : Option Nat), (lfold (idxB1 c) s (o, k)).1 = match o with | some i => some i | none => (s.findIdx? (fun b => b == c)).map (· + k) := by
    intro s
    induction s with
    | nil => intro k o; cases o <;> rfl
    | cons b s ih =>
      intro k o
      rw [lfold_cons]
      show (lfold (idxB1 c) s (oel (iteB (Nat.beq b c) (some k) none) o fun i => some i, k + 1)).1 = _
      rw [ih]
      cases o with
      | some i => simp
      | none =>
        simp only [oel_none, List.findIdx?_cons]
        by_cases e : b = c
        · subst e; simp
        · have e' : Nat.beq b c = false := by
            cases h : Nat.beq b c with
            | false => rfl
            | true => exact absurd (Nat.eq_of_beq_eq_true h) e
          have e2 : (b == c) = false := by simpa using e
          rw [e', e2]
          simp only [iteB_eq]
          cases List.findIdx? (fun b => b == c) s with
          | none => simp
          | some j => simp; omega
  unfold idxB
  rw [key]
  cases List.findIdx? (fun b => b == c) s with
  | none => simp
  | some j => simp
theorem ext_same {P : Program} {f : FuncId} {fn : Func} (h : ExtAt P f fn Extern.AbiNoEscape.same) {args : List AV} {vs : List Value} {v : AV} {E : Env} {w : World} (hx : extV .same args = some v) (ha : LR E args vs) :
    ∃ y, (callFunc f vs.toArray).run P w = .ok (.value y) w ∧ VR E v y := by
  have hx : one1 args = some v := hx
  rw [one1_some] at hx
  subst hx
  cases vs with
  | nil => simp [LR] at ha
  | cons x r =>
    cases r with
    | cons y r => simp [LR] at ha
    | nil => exact ⟨x, h.run rfl, ha.2 0 v x rfl rfl⟩
theorem range_find (s : ByteArray) (c : UInt8) : ∀ (n k : Nat), k + n = s.size → ((List.range' k n).find? fun i => s[i]! == c) = ((s.data.toList.drop k).findIdx? (fun b => b == c)).map (· + k)
  | 0, k, h => by
    have : s.data.toList.drop k = [] := List.drop_eq_nil_of_le (by simp [← ByteArray.size_data] at h ⊢; omega)
    rw [this]; rfl
  | n + 1, k, h => by
    have hk : k < s.data.toList.length := by simp [← ByteArray.size_data] at h ⊢; omega
    rw [List.range'_succ, List.find?_cons, List.drop_eq_getElem_cons hk, List.findIdx?_cons, range_find s c n (k + 1) (by omega)]
    have e : s[k]! = s.data.toList[k] := by
      have hk' : k < s.size := by omega
      rw [getElem!_pos s k hk']; rfl
    rw [e]
    cases (s.data.toList[k] == c) with
    | true => simp
    | false =>
      simp only [Bool.false_eq_true, if_false]
      cases List.findIdx? (fun b => b == c) (s.data.toList.drop (k + 1)) with
      | none => rfl
      | some j => simp; omega
theorem findIdx_bytes (c : Nat) (hc : c < 256) : ∀ (s : List Nat), (∀ x ∈ s, x < 256) → (s.map UInt8.ofNat).findIdx? (fun b => b == UInt8.ofNat c) = s.findIdx? (fun b => b == c)
  | [], _ => rfl
  | x :: s, h => by
    have hx : x < 256 := h x (by simp)
    have e : (UInt8.ofNat x == UInt8.ofNat c) = (x == c) := by
      by_cases e : x = c
      · subst e; simp
      · have : UInt8.ofNat x ≠ UInt8.ofNat c := fun h => e (by
          have := congrArg UInt8.toNat h
          simp only [UInt8.toNat_ofNat'] at this
          omega)
        rw [beq_false_of_ne this, beq_false_of_ne e]
    rw [List.map_cons, List.findIdx?_cons, List.findIdx?_cons, e, findIdx_bytes c hc s fun y hy => h y (by simp [hy])]
theorem ext_indexByteString {P : Program} {f : FuncId} {fn : Func} (h : ExtAt P f fn Extern.BytealgIndexByte.indexByte) {args : List AV} {vs : List Value} {v : AV} {E : Env} {w : World} (hx : extV .indexByteString args = some v) (ha : LR E args vs) :
    ∃ y, (callFunc f vs.toArray).run P w = .ok (.value y) w ∧ VR E v y := by
  have hx : tst (Nat.beq (llen args) 2) (ob (lget args 0) fun a => ob (dStr a) fun s => ob (lget args 1) fun c => ob (byteOfV c) fun b => some (.int .i64 (idxB b s))) = some v := hx
  simp only [tst_some, ob_some, lget_eq, byteOfV_some, Option.some.injEq, dStr_some] at hx
  obtain ⟨h0, a, h1, s, rfl, c, h2, b, ⟨rfl, hb⟩, rfl⟩ := hx
  obtain ⟨x, e1, r1⟩ := ha.get h1
  obtain ⟨y, e2, r2⟩ := ha.get h2
  have hl : vs.length = 2 := by
    have h0 : args.length = 2 := by simpa [llen_eq] using h0
    rw [← ha.1]; exact h0
  match vs, hl with
  | [x', y'], _ =>
    cases e1; cases e2
    simp only [VR] at r1 r2
    obtain ⟨rfl, h256⟩ := r1
    subst r2
    refine ⟨.int .i64 (idxB b s), h.run ?_, by simp [VR]⟩
    show (Extern.BytealgIndexByte.indexByte #[bytesV s, .int .u8 (.ofNat b)]).run P w = _
    show (do
      let t ← Extern.Bytes.bytesOf (bytesV s)
      let c ← Extern.Bytes.asByte (.int .u8 (.ofNat b))
      match (List.range t.size).find? fun i => t[i]! == c with
      | some i => pure (goInt i)
      | none => pure (goInt (-1)) : Sem Value).run P w = _
    unfold bytesV
    simp only [Sem.run_bind, Extern.Bytes.bytesOf, Extern.Bytes.asByte, Sem.run_pure, Result.andThen_ok]
    have eb : (Int.ofNat b).toNat.toUInt8 = UInt8.ofNat b := rfl
    rw [eb, List.range_eq_range', range_find _ _ _ 0 (by simp)]
    simp only [List.drop_zero, List.toList_toArray, findIdx_bytes b hb s h256, idxB_eq]
    cases List.findIdx? (fun x => x == b) s with
    | none => simp [goInt]
    | some i => simp [goInt]
/-- What the evaluator asks of a program, but for hand contracts. -/
structure Fit (C : Cx) : Prop where
  tt : C.tt = mkTT C.P
  fns : C.fns = mkFns C.P
  num : C.P.funcs.toList.all (fun fn => !(fn.name == "runtime.NumGoroutine")) = true
  ext : ∀ f x, C.ext f = some x → ∃ fn, match x with | .same => ExtAt C.P f fn Extern.AbiNoEscape.same | .indexByteString => ExtAt C.P f fn Extern.BytealgIndexByte.indexByte
  mixed : C.P.follows .mixedOrders = true
theorem Fit.ok {C : Cx} (h : Fit C) (hpr : ∀ (f : FuncId) (p : List AV → AW → Option (AV × AW)) {args : List AV} {S S' : AW} {v : AV} {E : Env} {w : World} {vs : List Value}, C.pr f = some p → p args S = some (v, S') → Sim E S w → LR E args vs → CallR C f vs.toArray w E S v S') : COk C := by
  refine ⟨by rw [h.tt]; exact mkTT_ok _, fun f fn hf => ?_, fun f x {args vs v E w} hx hv ha => ?_, hpr⟩
  · rw [h.fns] at hf
    have h1 := mkFns_get hf
    refine ⟨h1, ?_⟩
    have h2 := List.all_eq_true.1 h.num fn (by
      have := Array.mem_of_getElem? h1
      simpa using this)
    simpa using h2
  · obtain ⟨fn, hfn⟩ := h.ext f x hx
    cases x with
    | same => exact ext_same hfn hv ha
    | indexByteString => exact ext_indexByteString hfn hv ha
/-- A call that the evaluator has run. -/
theorem calls_of_iv {C : Cx} (hC : COk C) (hm : C.P.follows .mixedOrders = true) {N n : Nat} {f : FuncId} {args : List AV} {S S' : AW} {v : AV} {E : Env} {w : World} {vs : List Value} (h : (iv C N n).call f args S = some (v, S')) (hx : C.ext f = none) (hS : Sim E S w) (ha : LR E args vs) :
    Calls C.P f vs.toArray w (CPost E S w v S') := by
  rcases (iv_true hC hm N n).call h hS ha with ⟨_, h2⟩ | ⟨h1, _⟩
  · exact callsIn_wide.1 (h2 0)
  · exact absurd hx h1
theorem Grow.below {n : Nat} {E E' : Env} {S S' : AW} {w w' : World} (h : Grow n E S w E' S' w') (hro : ∀ i o, S.heap.get i = some o → ¬ wr o) : RowKit.Below w.heap.size w w' :=
  ⟨h.os, h.tape, h.output, h.size, fun b hb => h.keep b hb fun i o l hi hw => absurd hw (hro i o hi)⟩
/-- Where nothing is known but that the globals lie where they lie. -/
def envOf (om : Nat → Value) : Env := { loc := fun i => if i < 1000 then some ⟨i, 0, 0⟩ else none, om := om }
def emptyW : AW := { heap := .e, next := 1000 }
theorem sim_empty (om : Nat → Value) (w : World) : Sim (envOf om) emptyW w := by
  refine ⟨fun i o h => (by cases h), fun i j o o' l l' h => (by cases h), fun i hi => ?_, fun g hg => ?_⟩
  · have : ¬ i < 1000 := Nat.not_lt.2 hi
    simp [envOf, this]
  · simp [envOf, hg]
theorem T.get_e {α : Type} (i : Nat) : (T.e : T α).get i = none := rfl
/-- One variable more whose cells are known. -/
theorem Sim.global {om : Nat → Value} {S : AW} {w : World} (h : Sim (envOf om) S w) {g : Nat} {rs : RL} {vs : List Value} {e : TypeId} {fr : Nat × Nat} (hg : g < 1000) (hw : w.heap[g]? = some (.cells vs.toArray e fr)) (hr : CR (envOf om) (rflat rs) vs)
    (hall : ∀ i o, S.heap.get i = some o → i < 1000) : Sim (envOf om) (S.put g (.ro rs)) w ∧ ∀ i o, (S.put g (.ro rs)).heap.get i = some o → i < 1000 := by
  have hl : ∀ i, i < 1000 → (envOf om).loc i = some ⟨i, 0, 0⟩ := fun i hi => by simp [envOf, hi]
  have hall' : ∀ i o, (S.put g (.ro rs)).heap.get i = some o → i < 1000 := by
    intro i o hi
    change (S.heap.set g (.ro rs)).get i = some o at hi
    rw [T.get_set] at hi
    by_cases e : i = g
    · subst e; exact hg
    · rw [if_neg e] at hi; exact hall i o hi
  refine ⟨⟨fun i o hi => ?_, fun i j o o' l l' hi hj _ _ ei ej eb => ?_, h.new, h.glob⟩, hall'⟩
  · change (S.heap.set g (.ro rs)).get i = some o at hi
    rw [T.get_set] at hi
    by_cases e : i = g
    · rw [if_pos e] at hi
      cases hi
      subst e
      exact ⟨_, hl i hg, [], vs, [], e, fr, by simpa using hw, rfl, hr⟩
    · rw [if_neg e] at hi
      exact h.obj i o hi
  · have h1 := hall' i o hi
    have h2 := hall' j o' hj
    rw [hl i h1] at ei; rw [hl j h2] at ej
    cases ei; cases ej
    exact eb
end Go.Ev
namespace Go.Ev
noncomputable section
/- the sum of bytes -/
def tab16 : List Nat := [0, 274646895, 549293790, 820201905, 1098587580, 1361435347, 1640403810, 1905808397, 2197175160, 2460548119, 2722870694, 2987750089, 3280807620, 3553878443, 3811616794, 4084100981]
def crcT (i : Nat) : Nat := oel 0 (lget tab16 i) fun x => x
def crc1 (r : Nat) : Nat := Nat.xor (Nat.div r 16) (crcT (Nat.mod r 16))
def crcGo (l : List Nat) : Nat → Nat := @List.rec Nat (fun _ => Nat → Nat) (fun r => r) (fun c _ ih r => forceN (Nat.xor r c) fun a => forceN (crc1 a) fun b => forceN (crc1 b) ih) l
def crcL (l : List Nat) : Nat := Nat.xor (crcGo l 4294967295) 4294967295
def sumP : Prim := fun args S => ob (one1 args) fun a => ob (dSl a) fun s => tst (Nat.ble s.len 1048576) (ob (rcells S s.i) fun rs => ob (rext rs s.off s.len) fun r => ob (bytesOfR r) fun l => forceN (crcL l) fun n => some (.int .u32 (.ofNat n), S))

/- a flush of the device: the last of each block's writes is laid -/
structure Dv where
  i : Nat
  off : Nat
  r : Row
  safe : Sl
  m : Nat
  es : List Ent
  clock : Nat
  ops : Int
/-- a device that is up and has no fuse -/
def dDv (S : AW) (v : AV) : Option Dv := ob (dPtr v) fun p => ob (S.heap.get p.1) fun o => ob (dRow o) fun r =>
  ob (rget r.rs p.2) fun a => ob (dSl a) fun s => ob (rget r.rs (Nat.add p.2 1)) fun b => ob (dMap b) fun m => ob (S.heap.get m) fun o => ob (dMp o) fun mp =>
  ob (rget r.rs (Nat.add p.2 2)) fun f => ob (dInt f) fun f => ob (rget r.rs (Nat.add p.2 3)) fun d => ob (dBool d) fun d => ob (rget r.rs (Nat.add p.2 4)) fun n => ob (dInt n) fun n =>
  tst (andB (ieq f.2 (.negSucc 0)) (notB d)) (tst (andB (ikeq f.1 .i64) (ikeq n.1 .i64)) (some ⟨p.1, p.2, r, s, m, mp.es, mp.clock, n.2⟩))
def lnodup (l : List Nat) : Bool := @List.rec Nat (fun _ => Bool) true (fun x l ih => andB (notB (lmem x l)) ih) l
/-- the last of a block's writes -/
def lastOf (S : AW) (v : AV) : Option RL := ob (dSl v) fun s => tst (notB (Nat.beq s.len 0)) (ob (rcells S s.i) fun rs => rext rs (Nat.add s.off (Nat.mul (Nat.pred s.len) 512)) 512)
def flush1 (S : AW) (off len : Nat) (rs : RL) (e : Ent) : Option RL := ob (dNat e.key) fun k => tst (Nat.blt k len) (ob (lastOf S e.val) fun cs => rput rs (Nat.add off (Nat.mul k 512)) cs)
def entOk (i d clock : Nat) (e : Ent) : Bool := oel false (dInt e.key) fun k => oel false (dSl e.val) fun s => andB (ikeq k.1 .i64) (andB (notB (Nat.beq s.i i)) (andB (notB (Nat.beq s.i d)) (andB (Nat.blt 0 s.len) (andB (Nat.ble s.len 1048576) (Nat.blt e.born clock)))))
def keyN (e : Ent) : Nat := oel 0 (dNat e.key) fun n => n
def dvOk (d : Dv) : Bool := andB (Nat.blt 0 d.safe.len) (andB (lall (entOk d.safe.i d.i d.clock) d.es) (andB (lnodup (lmap keyN d.es)) (andB (lnodup (lmap Ent.born d.es)) (notB (Nat.beq d.safe.i d.i)))))
def flushP : Prim := fun args S => ob (one1 args) fun a => ob (dDv S a) fun d => tst (dvOk d) (ob (S.heap.get d.safe.i) fun o => ob (dRow o) fun r =>
  ob (lfoldO (flush1 S d.safe.off d.safe.len) d.es r.rs) fun rs => ob (rput d.r.rs (Nat.add d.off 4) [(1, .int .i64 (wrapI .i64 (iadd d.ops (.ofNat 1))))]) fun ds =>
  some (.int .i64 (.ofNat 0), ((S.put d.safe.i (.cells r.e rs r.op)).put d.m (.map [] d.clock)).put d.i (.cells d.r.e ds d.r.op)))

/- the keys of a map, rising -/
def insS (k : List Nat) (l : List (List Nat)) : List (List Nat) := @List.rec (List Nat) (fun _ => List (List Nat)) [k] (fun x r ih => iteB (llt x k) (x :: ih) (k :: x :: r)) l
def sortS (l : List (List Nat)) : List (List Nat) := @List.rec (List Nat) (fun _ => List (List Nat)) [] (fun x _ ih => insS x ih) l
def lnodupL (l : List (List Nat)) : Bool := @List.rec (List Nat) (fun _ => Bool) true (fun x l ih => andB (lall (fun y => notB (lbeq x y)) l) ih) l
def mapOk (es : List Ent) (clock : Nat) (ks : List (List Nat)) : Bool := andB (lall (fun e => Nat.blt e.born clock) es) (andB (lnodup (lmap Ent.born es)) (andB (lnodupL ks) (andB (lall (fun k => Nat.ble (llen k) 1048576) ks) (Nat.ble (llen ks) 65536))))
def sortedM (strT : TypeId) (S : AW) (m : AV) : Option (AV × AW) := oel (tst (isNmap m) (some (.nsl, S))) (dMap m) fun i => ob (S.heap.get i) fun o => ob (dMp o) fun mp => ob (lmapO (fun e => dStr e.key) mp.es) fun ks =>
  tst (mapOk mp.es mp.clock ks) (iteB (isEmpty ks) (some (.nsl, S)) (some (.sl S.next 0 (llen ks) (.rest 0), S.add (.cells strT (lmap (fun k => (1, .str k)) (sortS ks)) (some 1)))))
def sortedP (strT : TypeId) (isKeys : Nat → Bool) : Prim := fun args S => ob (one1 args) fun a => ob (dFn a) fun q => tst (isKeys q.f) (tst (isEmpty q.first) (ob (one1 q.cap) fun p => ob (dPtr p) fun p => tst (Nat.beq p.2 0) (ob (S.heap.get p.1) fun o => ob (dRow o) fun r => ob (rget r.rs 0) fun m => sortedM strT S m)))

/- the files as they were made last are kept, where nobody looks -/
def nodeOk (bad : Nat) (S : AW) (e : Ent) : Bool := andB (isSomeB (dStr e.key)) (oel false (dPtr e.val) fun p => andB (notB (Nat.beq p.1 bad)) (isSomeB (ob (rcells S p.1) fun rs => ob (rget rs p.2) fun n => ob (dInt n) fun q => tst (ikeq q.1 .i64) (ob (rget rs (Nat.add p.2 1)) fun s => oel (tst (isNsl s) (some ())) (dSl s) fun s => tst (notB (Nat.beq s.i bad)) (tst (Nat.ble s.len 1048576) (ob (S.heap.get s.i) fun o => ob (rowOf o) fun cs => ob (rext cs s.off (Nat.mul s.len 2)) fun _ => some ()))))))
def keepP (off : Nat) : Prim := fun args S => ob (one1 args) fun a => ob (dPtr a) fun p => ob (S.heap.get p.1) fun o => ob (dRow o) fun r => ob (rget r.rs (Nat.add p.2 off)) fun f => ob (dMap f) fun m => ob (S.heap.get m) fun o => ob (dMp o) fun mp =>
  tst (andB (lall (nodeOk p.1 S) mp.es) (andB (lall (fun e => Nat.blt e.born mp.clock) mp.es) (lnodup (lmap Ent.born mp.es)))) (ob (rput r.rs (Nat.add p.2 (Nat.succ off)) [(1, .map S.next)]) fun rs => some (.tup [], { heap := S.heap.set p.1 (.cells r.e rs r.op), next := Nat.succ S.next }))
end
end Go.Ev
