/- Rules over the evaluator's memory, for values that are not known. -/
import Derived.Test.YtdkkdfplkmfheaaGreatDoorEe
set_option linter.unusedSimpArgs false
set_option linter.unusedVariables false
namespace Go.Ev
abbrev AQ := Exit → T AV → List ADef → AW → Prop
def APost (C : Cx) (E : Env) (S : AW) (w : World) (sz : Nat) (Q : AQ) : Exit → Act → World → Prop :=
  fun e a w' => ∃ tm' dfs' S' E', Q e tm' dfs' S' ∧ Rel C E' S' w' tm' dfs' a ∧ a.tmps.size = sz ∧ Grow S.next E S w E' S' w'
structure Runs (C : Cx) (rnd : Option Nat) (sz : Nat) (c : Code) (tm : T AV) (dfs : List ADef) (S : AW) (Q : AQ) : Prop where
  go : ∀ {F : Fence} {n : Nat} {E : Env} {w : World} {act : Act}, RndOk E rnd F → Rel C E S w tm dfs act → act.tmps.size = sz → c.wpIn F n C.P (APost C E S w sz Q) act w
section
variable {C : Cx} {rnd : Option Nat} {sz : Nat} {tm : T AV} {dfs : List ADef} {S : AW} {Q : AQ}
theorem APost.mono {Q Q' : AQ} {E : Env} {w : World} {e : Exit} {a : Act} {w' : World} (h : APost C E S w sz Q e a w') (k : ∀ t d s, Q e t d s → Q' e t d s) : APost C E S w sz Q' e a w' := by
  obtain ⟨t, d, s, E', h1, h2⟩ := h
  exact ⟨t, d, s, E', k _ _ _ h1, h2⟩
theorem APost.trans {E E1 : Env} {S1 : AW} {w w1 : World} {e : Exit} {a : Act} {w' : World} (hG : Grow S.next E S w E1 S1 w1) (h : APost C E1 S1 w1 sz Q e a w') : APost C E S w sz Q e a w' := by
  obtain ⟨t, d, s, E', h1, h2, h3, h4⟩ := h
  exact ⟨t, d, s, E', h1, h2, h3, hG.trans (h4.less hG.next)⟩
theorem Runs.mono {c : Code} {Q Q' : AQ} (h : Runs C rnd sz c tm dfs S Q) (k : ∀ e t d s, Q e t d s → Q' e t d s) : Runs C rnd sz c tm dfs S Q' :=
  ⟨fun hF hA hsz => wpIn_mono (h.go hF hA hsz) fun e _ _ hp => hp.mono (k e)⟩
/-- Fewer temporaries are known. -/
theorem Runs.slots {c : Code} {tm2 : T AV} (h : Runs C rnd sz c tm2 dfs S Q) (k : ∀ t a, tm2.get t = some a → tm.get t = some a) : Runs C rnd sz c tm dfs S Q :=
  ⟨fun hF hA hsz => h.go hF { ty := hA.ty, sim := hA.sim, tmp := ⟨hA.tmp.1, fun t a ht => hA.tmp.2 t a (k t a ht)⟩, dfr := hA.dfr } hsz⟩
theorem Grow.wider {n : Nat} {E E' : Env} {S S2 S' : AW} {w w' : World} (h : Grow n E S2 w E' S' w') (hs : ∀ i o, S2.heap.get i = some o → S.heap.get i = some o) (hn : S.next ≤ S2.next) : Grow n E S w E' S' w' :=
  { le := h.le, os := h.os, tape := h.tape, output := h.output, size := h.size,
    keep := fun b hb hno => h.keep b hb fun i o l hi hw hl => hno i o l (hs i o hi) hw hl,
    own := fun i o l hi hl he => by
      rcases h.own i o l hi hl he with h1 | ⟨j, o', l', hj, r⟩
      · exact .inl h1
      · exact .inr ⟨j, o', l', hs j o' hj, r⟩
    next := Nat.le_trans hn h.next, fresh := h.fresh }
/-- Less memory is known. -/
theorem Runs.less {c : Code} {S2 : AW} (h : Runs C rnd sz c tm dfs S2 Q) (hs : ∀ i o, S2.heap.get i = some o → S.heap.get i = some o) (hn : S.next ≤ S2.next) : Runs C rnd sz c tm dfs S Q := by
  refine ⟨fun {F n E w act} hF hA hsz => ?_⟩
  refine wpIn_mono (h.go hF { ty := hA.ty, sim := hA.sim.weaken hs hn, tmp := hA.tmp, dfr := hA.dfr } hsz) ?_
  rintro e a w' ⟨t, d, s, E', h1, h2, h3, h4⟩
  exact ⟨t, d, s, E', h1, h2, h3, (h4.wider hs hn).less hn⟩
theorem runs_skip (h : Q .normal tm dfs S) : Runs C rnd sz .skip tm dfs S Q := ⟨fun _ hA hsz => wpIn_skip ⟨tm, dfs, S, _, h, hA, hsz, Grow.refl _ _ _ _⟩⟩
theorem runs_ret (h : Q .ret tm dfs S) : Runs C rnd sz .ret tm dfs S Q := ⟨fun _ hA hsz => wpIn_ret ⟨tm, dfs, S, _, h, hA, hsz, Grow.refl _ _ _ _⟩⟩
theorem runs_exit {id : Nat} (h : Q (.exit id) tm dfs S) : Runs C rnd sz (.exit id) tm dfs S Q := ⟨fun _ hA hsz => wpIn_exit ⟨tm, dfs, S, _, h, hA, hsz, Grow.refl _ _ _ _⟩⟩
theorem runs_label {l : Nat} (h : Q .normal tm dfs S) : Runs C rnd sz (.label l) tm dfs S Q := ⟨fun _ hA hsz => wpIn_label ⟨tm, dfs, S, _, h, hA, hsz, Grow.refl _ _ _ _⟩⟩
/-- behind a part that ends normally -/
def AThen (K : T AV → List ADef → AW → Prop) (Q : AQ) : AQ := fun e t d s => match e with
  | .normal => K t d s
  | e => Q e t d s
theorem runs_seq {a b : Code} (h : Runs C rnd sz a tm dfs S (AThen (fun t d s => Runs C rnd sz b t d s Q) Q)) : Runs C rnd sz (.seq a b) tm dfs S Q := by
  refine ⟨fun {F n E w act} hF hA hsz => ?_⟩
  refine wpIn_seq (wpIn_mono (h.go hF hA hsz) ?_)
  rintro e a1 w1 ⟨t, d, s, E1, hq, hA1, hsz1, hG1⟩
  cases e with
  | normal => exact wpIn_mono ((show Runs C rnd sz b t d s Q from hq).go (hF.mono hG1.le) hA1 hsz1) fun e a w hp => hp.trans hG1
  | _ => exact ⟨t, d, s, E1, hq, hA1, hsz1, hG1⟩
theorem runs_cond {o : Operand} {a b : Code} {t : Bool} (hc : aev tm o = some (.bool t)) (h : Runs C rnd sz (if t then a else b) tm dfs S Q) : Runs C rnd sz (.cond o a b) tm dfs S Q := by
  refine ⟨fun {F n E w act} hF hA hsz => ?_⟩
  have hv := hA.ev hc
  simp only [VR] at hv
  cases t with
  | true => exact wpIn_cond_true hv (h.go hF hA hsz)
  | false => exact wpIn_cond_false hv (h.go hF hA hsz)
def ABlock (id : Nat) (Q : AQ) : AQ := fun e t d s => match e with
  | .exit i => if i = id then Q .normal t d s else Q (.exit i) t d s
  | e => Q e t d s
theorem runs_block {id : Nat} {c : Code} (h : Runs C rnd sz c tm dfs S (ABlock id Q)) : Runs C rnd sz (.block id c) tm dfs S Q := by
  refine ⟨fun {F n E w act} hF hA hsz => ?_⟩
  refine wpIn_block (wpIn_mono (h.go hF hA hsz) ?_)
  rintro e a1 w1 ⟨t, d, s, E1, hq, hr⟩
  cases e with
  | exit i =>
    simp only [Exit.inBlock]
    simp only [ABlock] at hq
    split
    · rename_i e; subst e; rw [if_pos rfl] at hq; exact ⟨t, d, s, E1, hq, hr⟩
    · rename_i e; rw [if_neg e] at hq; exact ⟨t, d, s, E1, hq, hr⟩
  | _ => exact ⟨t, d, s, E1, hq, hr⟩
def ANoGoto (Q : AQ) : AQ := fun e t d s => match e with
  | .goto _ => False
  | e => Q e t d s
theorem runs_scope {c : Code} (h : Runs C rnd sz c tm dfs S (ANoGoto Q)) : Runs C rnd sz (.scope c) tm dfs S Q := by
  refine ⟨fun {F n E w act} hF hA hsz => ?_⟩
  refine wpIn_scope (wpIn_mono (h.go hF hA hsz) ?_)
  rintro e a1 w1 ⟨t, d, s, E1, hq, hr⟩
  cases e with
  | goto l => exact hq.elim
  | _ => exact ⟨t, d, s, E1, hq, hr⟩
/-- A loop: I m holds ahead of each round, with a smaller m each time. -/
theorem runs_loop {c : Code} (I : Nat → T AV → List ADef → AW → Prop) (m0 : Nat) (h0 : I m0 tm dfs S) (h : ∀ m t d s, I m t d s → Runs C rnd sz c t d s (AThen (fun t d s => ∃ k, k < m ∧ I k t d s) Q)) : Runs C rnd sz (.loop c) tm dfs S Q := by
  refine ⟨fun {F n E0 w0 act0} hF0 hA0 hsz0 => ?_⟩
  have key : ∀ (M : Nat) (m : Nat) {t : T AV} {d : List ADef} {s : AW} {E : Env} {w : World} {act : Act}, m < M → I m t d s → RndOk E rnd F → Rel C E s w t d act → act.tmps.size = sz → Grow S.next E0 S w0 E s w → Code.roundsIn F n C.P c (APost C E0 S w0 sz Q) M act w := by
    intro M
    induction M with
    | zero => intro m _ _ _ _ _ _ hm; omega
    | succ M ih =>
      intro m t d s E w act hm hI hF hA hsz hG
      rw [roundsIn_succ]
      refine wpIn_mono ((h m t d s hI).go hF hA hsz) ?_
      rintro e a1 w1 ⟨t1, d1, s1, E1, hq, hA1, hsz1, hG1⟩
      cases e with
      | normal =>
        obtain ⟨k, hk, hI1⟩ := hq
        exact ih k (by omega) hI1 (hF.mono hG1.le) hA1 hsz1 (hG.trans (hG1.less hG.next))
      | _ => exact ⟨t1, d1, s1, E1, hq, hA1, hsz1, hG.trans (hG1.less hG.next)⟩
  exact wpIn_loop_rounds (m0 + 1) (key (m0 + 1) m0 (Nat.lt_succ_self _) h0 hF0 hA0 hsz0 (Grow.refl _ _ _ _))
/-- Code that the evaluator runs. -/
theorem runs_eval {R : Iv} (hR : IvOk C R) (hm : C.P.follows .mixedOrders = true) {N : Nat} {c : Code} {x : Exit} {tm' : T AV} {dfs' : List ADef} {S' : AW} (h : codeK c C R N rnd sz tm dfs S = .mk x tm' dfs' S') (hq : Q x tm' dfs' S') : Runs C rnd sz c tm dfs S Q := by
  refine ⟨fun {F n E w act} hF hA hsz => ?_⟩
  refine wpIn_mono (codeK_ok hR (draw_ok hR hm) N c h hF hA hsz) ?_
  rintro e a w' ⟨rfl, E', h1, h2, h3⟩
  exact ⟨tm', dfs', S', E', hq, h1, h2, h3⟩
/-- Operations of a region in order, one by one. -/
structure Ops (C : Cx) (rnd : Option Nat) (sz : Nat) (ops l : List Oper) (tm : T AV) (dfs : List ADef) (S : AW) (Q : AQ) : Prop where
  go : ∀ {F : Fence} {n : Nat} {E : Env} {w : World} {act : Act}, RndOk E rnd F → Rel C E S w tm dfs act → act.tmps.size = sz → wpListIn F n C.P ops.toArray (APost C E S w sz Q) l act w
theorem runs_region {id : Nat} {ops : Array Oper} (h : Ops C rnd sz ops.toList ops.toList tm dfs S Q) : Runs C rnd sz (.region id ops false) tm dfs S Q := by
  refine ⟨fun {F n E w act} hF hA hsz => ?_⟩
  have := h.go (n := n) hF hA hsz
  exact wpIn_region_list (by simpa using this)
theorem ops_nil {ops : List Oper} (h : Q .normal tm dfs S) : Ops C rnd sz ops [] tm dfs S Q := ⟨fun _ hA hsz => ⟨tm, dfs, S, _, h, hA, hsz, Grow.refl _ _ _ _⟩⟩
theorem LetsOut.mono {Q Q' : Exit → Act → World → Prop} (k : ∀ e a w, Q e a w → Q' e a w) (h : LetsOut Q) : LetsOut Q' := let ⟨a, w, h⟩ := h; ⟨a, w, k _ _ _ h⟩
theorem wpIn_mono2 {F : Fence} {n : Nat} {P : Program} {o : Oper} {a : Act} {w : World} {K K' : Act → World → Prop} {Q Q' : Exit → Act → World → Prop} (h : ∀ a w, K a w → K' a w) (k : ∀ e a w, Q e a w → Q' e a w)
    (hh : o.wpIn F n P a w K Q) : o.wpIn F n P a w K' Q' := by
  unfold Oper.wpIn at *
  refine ⟨hh.1, ?_⟩
  have hh := hh.2
  generalize (o.semAt F.round a.eval).run P w = r at *
  cases r with
  | ok x w' =>
    cases x with
    | value v => exact h _ _ hh
    | skip => exact h _ _ hh
    | defer d => exact h _ _ hh
    | enter f args =>
      refine ⟨hh.1, CallsIn.mono hh.2 fun e w' he => ?_⟩
      cases e with
      | returned v => exact h _ _ he
      | panicked c => exact k _ _ _ he
      | outgrown => exact LetsOut.mono k he
    | row row args => exact ⟨hh.1, RowsIn.mono hh.2 fun v w' he => h _ _ he⟩
    | round l f t a b =>
      refine ⟨hh.1, RoundIn.mono hh.2 fun e w' he => ?_⟩
      cases e with
      | returned v => exact h _ _ he
      | panicked c => exact k _ _ _ he
      | outgrown => exact LetsOut.mono k he
    | _ => exact hh
  | halt hl w' =>
    cases hl with
    | panic v => exact k _ _ _ hh
    | _ => exact hh
theorem wpListIn_mono {F : Fence} {n : Nat} {P : Program} {ops : Array Oper} {Q Q' : Exit → Act → World → Prop} (k : ∀ e a w, Q e a w → Q' e a w) : ∀ (l : List Oper) {a : Act} {w : World}, wpListIn F n P ops Q l a w → wpListIn F n P ops Q' l a w
  | [], _, _, h => k _ _ _ h
  | o :: l, a, w, h => by
    simp only [wpListIn] at h ⊢
    split
    · rename_i hw
      rw [if_pos hw] at h
      exact wpIn_mono2 (fun a w hn => wpListIn_mono k l hn) k h
    · rename_i hw
      rw [if_neg hw] at h
      exact ⟨h.1, wpListIn_mono k l h.2⟩
/-- What a call comes to, as a relation. -/
def RPost (E : Env) (S : AW) (w : World) (Q : AV → AW → Prop) : Ending → World → Prop := fun e w' => ∃ v S' x E', Q v S' ∧ e = .returned x ∧ VR E' v x ∧ Sim E' S' w' ∧ Grow S.next E S w E' S' w'
structure Ret (C : Cx) (f : FuncId) (args : List AV) (S : AW) (Q : AV → AW → Prop) : Prop where
  go : ∀ {E : Env} {w : World} {vs : List Value}, Sim E S w → LR E args vs → (callFunc f vs.toArray).run C.P w = .ok (.enter f vs.toArray) w ∧ ∀ n, CallsIn Fence.wide n C.P f vs.toArray w (RPost E S w Q)
theorem Ret.mono {f : FuncId} {args : List AV} {Q Q' : AV → AW → Prop} (h : Ret C f args S Q) (k : ∀ v s, Q v s → Q' v s) : Ret C f args S Q' := by
  refine ⟨fun {E w vs} hS ha => ?_⟩
  obtain ⟨h1, h2⟩ := h.go hS ha
  exact ⟨h1, fun n => CallsIn.mono (h2 n) fun e w' ⟨v, s, x, E', a, b⟩ => ⟨v, s, x, E', k v s a, b⟩⟩
theorem Ret.less {f : FuncId} {args : List AV} {Q : AV → AW → Prop} {S2 : AW} (h : Ret C f args S2 Q) (hs : ∀ i o, S2.heap.get i = some o → S.heap.get i = some o) (hn : S.next ≤ S2.next) : Ret C f args S Q := by
  refine ⟨fun {E w vs} hS ha => ?_⟩
  obtain ⟨h1, h2⟩ := h.go (hS.weaken hs hn) ha
  exact ⟨h1, fun n => CallsIn.mono (h2 n) fun e w' ⟨v, s, x, E', a, b, c, d, g⟩ => ⟨v, s, x, E', a, b, c, d, (g.wider hs hn).less hn⟩⟩
theorem Ret.of_eval {R : Iv} (hR : IvOk C R) {f : FuncId} {args : List AV} {v : AV} {S' : AW} (hx : C.ext f = none) (h : R.call f args S = some (v, S')) {Q : AV → AW → Prop} (hq : Q v S') : Ret C f args S Q := by
  refine ⟨fun {E w vs} hS ha => ?_⟩
  rcases hR.call h hS ha with ⟨h1, h2⟩ | ⟨h1, _⟩
  · exact ⟨h1, fun n => CallsIn.mono (h2 n) fun e w' ⟨x, E', a, b⟩ => ⟨v, S', x, E', hq, a, b⟩⟩
  · exact absurd hx h1
/-- A function out of its body, without deferred calls. -/
theorem ret_of_runs (hC : COk C) {f : FuncId} {fn : Func} {c : Code} {args : List AV} {Q : AV → AW → Prop} (hfn : C.fns.get f = some fn) (hb : fn.body = some c)
    (h : Runs C none (frameSz fn args) c (argTm args) [] S (fun e t d s => isOut e = true ∧ d = [] ∧ ∃ v, resultsV C.tt fn t s = some v ∧ Q v s)) : Ret C f args S Q := by
  refine ⟨fun {E w vs} hS ha => ?_⟩
  refine ⟨run_enter hC hfn hb _ w, fun n => ?_⟩
  have hT := argTm_TR ha fn.ntmps
  have hrel : Rel C E S w (argTm args) [] { tmps := vs.toArray ++ Array.replicate (fn.ntmps - vs.toArray.size) undef, defers := [] } := { ty := hC.ty, sim := hS, tmp := hT, dfr := rfl }
  refine callsIn_of_wp_marks (hC.fns f fn hfn).1 hb trivial ?_
  refine wpIn_mono (h.go (n := n) (show RndOk E none Fence.wide from rfl) hrel (frameSz_eq ha.1).symm) ?_
  rintro e a1 w1 ⟨t, d, s, E1, ⟨hxo, rfl, v, hres, hq⟩, hrel1, hsz1, hG1⟩
  obtain ⟨y, hy, hyv⟩ := results_ok hC.ty hrel1.sim hrel1.tmp hres
  have hd : a1.defers = [] := hrel1.dfr
  have hlv : LeavesInM Fence.wide n C.P fn a1.tmps (RPost E S w Q) a1.defers .returning w1 := by
    rw [hd]
    exact ⟨y, hy, v, s, y, E1, hq, rfl, hyv, hrel1.sim, hG1⟩
  rcases isOut_iff.1 hxo with rfl | rfl
  · exact hlv
  · exact hlv
theorem RndOk.callsR {E : Env} {F : Fence} (k : RndOk E rnd F) {n : Nat} {f : FuncId} {args : Array Value} {w : World} {R : Ending → World → Prop} (h : CallsIn Fence.wide n C.P f args w R) : CallsIn F n C.P f args w R := k.calls h
theorem ops_op {ops l : List Oper} {o : Oper} {tm1 : T AV} {dfs1 : List ADef} {S1 : AW} (hw : wantedV ops tm o = some true) (h : stepH (opH o.op) C iv0 rnd sz o.dst tm dfs S doneK = .mk .normal tm1 dfs1 S1) (k : Ops C rnd sz ops l tm1 dfs1 S1 Q) : Ops C rnd sz ops (o :: l) tm dfs S Q := by
  refine ⟨fun {F n E w act} hF hA hsz => ?_⟩
  subst hsz
  have hwant := wanted_eq hw hA.tmp
  obtain ⟨t', d', s', hk, hreg⟩ := stepH_reg (n := n) (iv0_ok C) hF hA h (by simp)
  cases hk
  simp only [wpListIn, hwant, if_true]
  refine hreg _ _ fun act' w' E' hrel hsz' hG' => ?_
  exact wpListIn_mono (fun e a w hp => hp.trans hG') l (k.go (n := n) (hF.mono hG'.le) hrel hsz')
theorem ops_unwanted {ops l : List Oper} {o : Oper} {tm1 : T AV} (hw : wantedV ops tm o = some false) (h : putT sz o.dst undefV tm = some tm1) (k : Ops C rnd sz ops l tm1 dfs S Q) : Ops C rnd sz ops (o :: l) tm dfs S Q := by
  refine ⟨fun {F n E w act} hF hA hsz => ?_⟩
  subst hsz
  have hwant := wanted_eq hw hA.tmp
  simp only [wpListIn, hwant, Bool.false_eq_true, if_false]
  exact ⟨fun f _ => hF.fn f, k.go (n := n) hF (hA.put (Le.refl E) hA.sim h (VR_undef E)) (put_size _ _ _)⟩
/-- What an operation yields, told as a relation. -/
theorem ops_rel {ops l : List Oper} {o : Oper} {Qo : AV → AW → Prop} (hw : wantedV ops tm o = some true)
    (h : ∀ {F : Fence} {n : Nat} {E : Env} {w : World} {act : Act}, RndOk E rnd F → Rel C E S w tm dfs act → act.tmps.size = sz → ∀ (next : Act → World → Prop) (Qx : Exit → Act → World → Prop), (∀ v S' x w' E', Qo v S' → VR E' v x → Sim E' S' w' → Grow S.next E S w E' S' w' → next (act.put o.dst x) w') → o.wpIn F n C.P act w next Qx)
    (k : ∀ v S', Qo v S' → ∃ tm1, putT sz o.dst v tm = some tm1 ∧ Ops C rnd sz ops l tm1 dfs S' Q) : Ops C rnd sz ops (o :: l) tm dfs S Q := by
  refine ⟨fun {F n E w act} hF hA hsz => ?_⟩
  subst hsz
  have hwant := wanted_eq hw hA.tmp
  simp only [wpListIn, hwant, if_true]
  refine h hF hA rfl _ _ fun v S' x w' E' hq hv hS' hG' => ?_
  obtain ⟨tm1, hp, hk⟩ := k v S' hq
  exact wpListIn_mono (fun e a w hp => hp.trans hG') l (hk.go (n := n) (hF.mono hG'.le) (hA.put hG'.le hS' hp hv) (put_size _ _ _))
theorem ops_call {ops l : List Oper} {o : Oper} {c : Call} {f : Operand} {q : FnV} {args : List AV} {Qo : AV → AW → Prop} (hw : wantedV ops tm o = some true) (ho : o.op = .call c) (hc : c.callee = .value f)
    (hg : aev tm f = some (.fn q.f q.first q.cap)) (hargs : lmapO (aev tm) c.args.toList = some args) (h : Ret C q.f (lapp q.first (lapp args q.cap)) S Qo)
    (k : ∀ v S', Qo v S' → ∃ tm1, putT sz o.dst v tm = some tm1 ∧ Ops C rnd sz ops l tm1 dfs S' Q) : Ops C rnd sz ops (o :: l) tm dfs S Q := by
  refine ops_rel hw ?_ k
  intro F n E w act hF hA hsz next Qx hnext
  have hgv := hA.ev hg
  have hav := hA.evs hargs
  simp only [VR] at hgv
  obtain ⟨xs, ys, hgv, hx, hy⟩ := hgv
  have hl : LR E (lapp q.first (lapp args q.cap)) (xs ++ (c.args.toList.map act.eval ++ ys)) := by
    rw [lapp_eq, lapp_eq]
    exact (VRL_iff.1 hx).append (hav.append (VRL_iff.1 hy))
  obtain ⟨he, hcall⟩ := h.go hA.sim hl
  have hexec : (execOp act.eval o).run C.P w = (callFunc q.f (xs ++ (c.args.toList.map act.eval ++ ys)).toArray).run C.P w := by
    have e : xs.toArray ++ c.args.map act.eval ++ ys.toArray = (xs ++ (c.args.toList.map act.eval ++ ys)).toArray := by
      apply Array.toList_inj.1; simp
    simp only [execOp, ho, resolve, hc, hgv, Deferred.ofValue, Sem.run_bind, Sem.run_pure, Result.andThen_ok, invoke, e]
  have hnd : ∀ c', o.op ≠ .defer c' := by
    intro c' h; rw [ho] at h; cases h
  refine ⟨fun f _ => hF.fn f, ?_⟩
  rw [Oper.semAt_eq _ _ _ hnd, hexec, he, Oper.uponIn_enter]
  refine ⟨fun hd => absurd hd (by rw [hF.depth]; simp), ?_⟩
  refine CallsIn.mono (hF.calls (hcall (n - 1))) ?_
  rintro e w' ⟨v, S', x, E', hq, rfl, h1, h2, h3⟩
  exact hnext v S' x w' E' hq h1 h2 h3
end
end Go.Ev
namespace Go.Ev
theorem ER.left {E : Env} {seen : List Nat} : ∀ {es : List Ent} {ms : List MapEntry}, ER E es ms → ER E (es.filter fun e => !(lmem e.born seen)) (ms.filter fun e => !(seen.reverse.toArray.contains e.born))
  | [], ms, he => by
    have : ms = [] := List.eq_nil_of_length_eq_zero he.1.symm
    subst this
    exact ⟨rfl, fun i x y hx => by simp at hx⟩
  | x :: es, [], he => by simp [ER] at he
  | x :: es, y :: ms, he => by
    obtain ⟨k1, k2, k3⟩ := he.2 0 x y rfl rfl
    have ih := ER.left (seen := seen) (es := es) (ms := ms) ⟨by simpa using he.1, fun i p q hp hq => he.2 (i + 1) p q (by simpa using hp) (by simpa using hq)⟩
    have hf : (!(seen.reverse.toArray.contains y.born)) = !(lmem x.born seen) := by
      rw [lmem_eq, k3]
      congr 1
      rw [Bool.eq_iff_iff]
      simp
    rw [List.filter_cons, List.filter_cons, hf]
    cases hb : !(lmem x.born seen) with
    | true =>
      simp only [if_true]
      refine ⟨by simp [ih.1], fun i p r hp hr => ?_⟩
      cases i with
      | zero => simp at hp hr; subst hp; subst hr; exact ⟨k1, k2, k3⟩
      | succ i => exact ih.2 i p r (by simpa using hp) (by simpa using hr)
    | false => simpa using ih
theorem ER.bornAll {E : Env} {es : List Ent} {ms : List MapEntry} (h : ER E es ms) {p : Nat → Prop} : (∀ e ∈ es, p e.born) → ∀ m ∈ ms, p m.born := by
  intro k m hm
  obtain ⟨i, hi, rfl⟩ := List.getElem_of_mem hm
  have hi' : i < es.length := by rw [h.1]; exact hi
  have := (h.2 i es[i] ms[i] (by simp [hi']) (by simp [hi])).2.2
  rw [this]
  exact k _ (List.getElem_mem hi')
theorem ER.bornAll' {E : Env} {es : List Ent} {ms : List MapEntry} (h : ER E es ms) {p : Nat → Prop} : (∀ m ∈ ms, p m.born) → ∀ e ∈ es, p e.born := by
  intro k m hm
  obtain ⟨i, hi, rfl⟩ := List.getElem_of_mem hm
  have hi' : i < ms.length := by rw [← h.1]; exact hi
  have := (h.2 i es[i] ms[i] (by simp [hi]) (by simp [hi'])).2.2
  rw [← this]
  exact k _ (List.getElem_mem hi')
/-- What is left of a range. -/
noncomputable def leftOf (es : List Ent) (seen : List Nat) : List Ent := es.filter fun e => !(lmem e.born seen)
def NextQ (S : AW) (i m since : Nat) (seen : List Nat) (es : List Ent) (clock : Nat) (v : AV) (S' : AW) : Prop :=
  (leftOf es seen = [] ∧ v = .tup [.bool false] ∧ S' = S) ∨ ∃ e ∈ leftOf es seen, v = .tup [.bool true, e.key, e.val] ∧ S' = S.put i (.miter (some m) since (e.born :: seen) clock)
theorem next_any {C : Cx} {rnd : Option Nat} {sz : Nat} {tm : T AV} {dfs : List ADef} {S : AW} {o : Oper} {it : Operand} {i m since stepped clock : Nat} {seen : List Nat} {es : List Ent} (ho : o.op = .next it false) (ha : aev tm it = some (.ptr i 0))
    (hi : S.heap.get i = some (.miter (some m) since seen stepped)) (hmap : S.heap.get m = some (.map es clock)) (hg : es = [] ∨ ∃ e ∈ es, e.born < stepped) (hold : ∀ e ∈ es, e.born < since) :
    ∀ {F : Fence} {n : Nat} {E : Env} {w : World} {act : Act}, RndOk E rnd F → Rel C E S w tm dfs act → act.tmps.size = sz → ∀ (next : Act → World → Prop) (Qx : Exit → Act → World → Prop), (∀ v S' x w' E', NextQ S i m since seen es clock v S' → VR E' v x → Sim E' S' w' → Grow S.next E S w E' S' w' → next (act.put o.dst x) w') → o.wpIn F n C.P act w next Qx := by
  intro F n E w act hF hA hsz nxt Qx hnext
  have hv := hA.ev ha
  simp only [VR] at hv
  obtain ⟨l, hl, hv⟩ := hv
  obtain ⟨l', hl', hO⟩ := hA.sim.obj _ _ hi
  rw [hl] at hl'; cases hl'
  obtain ⟨hoff, m', hb, k, hk, rfl⟩ := hO
  obtain ⟨k', hk', ms, hbm, he⟩ := hA.sim.obj _ _ hmap
  rw [hk] at hk'; cases hk'
  have hlt : l.blk < w.heap.size := (Array.getElem?_eq_some_iff.1 hb).1
  suffices hh : ∃ v S' x w', (Instr.next (.pointer (some ⟨l.blk, l.off + 0, none⟩)) false o.type).run C.P w = .ok x w' ∧ NextQ S i m since seen es clock v S' ∧ VR E v x ∧ Sim E S' w' ∧ Grow S.next E S w E S' w' by
    obtain ⟨v, S', x, w', h1, h2, h3, h4, h5⟩ := hh
    refine wpIn_value (fun f => hF.fn f) (fun c h => by rw [ho] at h; cases h) (x := x) (w' := w') ?_ (hnext v S' x w' E h2 h3 h4 h5)
    simp only [execOp, ho, hv]; exact run_v' h1
  have hg' : (!seen.reverse.toArray.isEmpty && !ms.toArray.isEmpty && ms.toArray.all (fun e => decide (e.born ≥ stepped))) = false := by
    rcases hg with rfl | ⟨e, hem, hlt⟩
    · have : ms = [] := List.eq_nil_of_length_eq_zero he.1.symm
      subst this
      simp
    · have : ms.toArray.all (fun e => decide (e.born ≥ stepped)) = false := by
        rw [Bool.eq_false_iff]
        intro hall
        simp only [List.all_toArray, List.all_eq_true, decide_eq_true_eq] at hall
        have := ER.bornAll' he (p := fun b => b ≥ stepped) hall e hem
        omega
      rw [this]; simp
  have hflt : ms.toArray.filter (fun e => !(seen.reverse.toArray.contains e.born)) = (ms.filter fun e => !(seen.reverse.toArray.contains e.born)).toArray := by simp
  have hleft := ER.left (seen := seen) he
  have hbl : ∀ e ∈ (ms.filter fun e => !(seen.reverse.toArray.contains e.born)), e.born < since := fun e hem => ER.bornAll he (p := fun b => b < since) hold e (List.mem_filter.1 hem).1
  change ER E (leftOf es seen) _ at hleft
  unfold Instr.next
  simp only [hoff, Nat.add_zero, Sem.run_bind, run_getObj' hb (by simp), Result.andThen_ok, run_getObj' hbm (by simp), hg', Bool.false_eq_true, if_false, hflt]
  generalize (ms.filter fun e => !(seen.reverse.toArray.contains e.born)) = lm at hleft hbl ⊢
  have ho1 : lm.toArray.filter (fun e => decide (e.born < since)) = lm.toArray := by
    rw [Array.filter_eq_self]
    intro e he; simpa using hbl e (by simpa using he)
  have ho2 : lm.toArray.filter (fun e => decide (e.born ≥ since)) = #[] := by
    rw [Array.filter_eq_empty_iff]
    intro e he; have := hbl e (by simpa using he); simp; omega
  cases hlm : lm with
  | nil =>
    subst hlm
    have hnil : leftOf es seen = [] := List.eq_nil_of_length_eq_zero hleft.1
    refine ⟨_, S, _, w, ?_, .inl ⟨hnil, rfl, rfl⟩, VR_over E, hA.sim, Grow.refl _ _ _ _⟩
    simp [show (Question.mapNext 1).forced = true from rfl]
  | cons y ys =>
    rw [← hlm]
    have hne : lm.length ≠ 0 := by rw [hlm]; simp
    rw [ho1, ho2]
    have hemp : lm.toArray.isEmpty = false := by rw [hlm]; simp
    simp only [hemp, Bool.false_eq_true, if_false, Array.append_empty, Array.empty_append]
    obtain ⟨j, w1, hj, hrun, hw1⟩ : ∃ j w1, j < lm.length ∧ (choose (.mapNext (lm.toArray.map some).size)).run C.P w = .ok j w1 ∧ (w1 = w ∨ w1 = w.drew) := by
      rw [run_choose_drew]
      split
      · exact ⟨0, w, by omega, rfl, .inl rfl⟩
      · refine ⟨_, w.drew, ?_, rfl, .inr rfl⟩
        have : (lm.toArray.map some).size = lm.length := by simp
        rw [this]
        show (Question.mapNext lm.length).cut _ < _
        unfold Question.cut
        exact Nat.mod_lt _ (by omega)
    have hheap : w1.heap = w.heap := by rcases hw1 with rfl | rfl <;> rfl
    have hS1 : Sim E S w1 := by rcases hw1 with rfl | rfl; exact hA.sim; exact hA.sim.drew
    have hG1 : Grow S.next E S w E S w1 := by
      rcases hw1 with rfl | rfl
      · exact Grow.refl _ _ _ _
      · exact ⟨Le.refl E, rfl, rfl, rfl, Nat.le_refl _, fun _ _ _ => rfl, fun i o l hi hl he => .inr ⟨i, o, l, hi, hl, he, rfl, id⟩, Nat.le_refl _, fun _ _ h => h⟩
    have hb1 : w1.heap[l.blk]? = some (.mapIter (some k.blk) since seen.reverse.toArray stepped) := by rw [hheap]; exact hb
    have hlt1 : l.blk < w1.heap.size := by rw [hheap]; exact hlt
    have hj' : j < (leftOf es seen).length := by rw [hleft.1]; exact hj
    obtain ⟨k1, k2, k3⟩ := hleft.2 j (leftOf es seen)[j] lm[j] (by simp [hj']) (by simp [hj])
    obtain ⟨hS', hG⟩ := hS1.mod (ob := .mapIter (some k.blk) since (seen.reverse.toArray.push lm[j].born) clock) (o' := .miter (some m) since ((leftOf es seen)[j].born :: seen) clock) hi trivial hl
      ⟨hoff, some k.blk, by rw [setBlk_same hlt1]; simp [k3], k, hk, rfl⟩ S.next
    refine ⟨.tup [.bool true, (leftOf es seen)[j].key, (leftOf es seen)[j].val], _, .tuple #[.bool true, lm[j].key, lm[j].val], _, ?_, .inr ⟨(leftOf es seen)[j], List.getElem_mem hj', rfl, rfl⟩, ?_, hS', hG1.trans (hG.less (Nat.le_refl _))⟩
    · rw [hrun]
      have hget : (lm.toArray.map some)[j]? = some (some lm[j]) := by simp [hj]
      simp only [Result.andThen_ok, hget, Sem.run_bind, run_setObj' hb1 (by simp), Sem.run_pure]
    · simp only [VR]
      exact ⟨[.bool true, lm[j].key, lm[j].val], rfl, by simp only [VRL]; exact ⟨_, _, rfl, by simp [VR], _, _, rfl, k1, _, _, rfl, k2, rfl⟩⟩
end Go.Ev
namespace Go.Ev
mutual
def idsLt (n : Nat) : AV → Prop
  | .ptr i _ | .sl i _ _ _ | .map i | .chan i | .yld i => i < n
  | .fn _ a b => idsLtL n a ∧ idsLtL n b
  | .ifc _ v => idsLt n v
  | .agg cs => idsLtR n cs
  | .tup vs => idsLtL n vs
  | _ => True
def idsLtL (n : Nat) : List AV → Prop
  | [] => True
  | a :: as => idsLt n a ∧ idsLtL n as
def idsLtR (n : Nat) : List (Nat × AV) → Prop
  | [] => True
  | (_, a) :: as => idsLt n a ∧ idsLtR n as
end
section
variable {n : Nat} {E E' : Env}
/-- What stands in a run may be of no length: then nothing is known of it; the value is taken as it stands. -/
def Only (n : Nat) (E' E : Env) : Prop := (∀ i l, i < n → E'.loc i = some l → E.loc i = some l) ∧ E.om = E'.om
mutual
theorem VR.back (h : Only n E' E) : ∀ (a : AV) (v : Value), idsLt n a → VR E' a v → VR E a v
  | .bool _, _, _, x => by simpa [VR] using x
  | .int _ _, _, _, x => by simpa [VR] using x
  | .str _, _, _, x => by simpa [VR] using x
  | .ptr _ _, _, k, x => by simp only [VR] at x ⊢; obtain ⟨l, hl, e⟩ := x; exact ⟨l, h.1 _ _ k hl, e⟩
  | .nptr, _, _, x => by simpa [VR] using x
  | .sl _ _ _ (.ex _), _, k, x => by simp only [VR] at x ⊢; obtain ⟨l, hl, e⟩ := x; exact ⟨l, h.1 _ _ k hl, e⟩
  | .sl _ _ _ (.rest _), _, k, x => by simp only [VR] at x ⊢; obtain ⟨l, hl, e⟩ := x; exact ⟨l, h.1 _ _ k hl, e⟩
  | .nsl, _, _, x => by simpa [VR] using x
  | .map _, _, k, x => by simp only [VR] at x ⊢; obtain ⟨l, hl, e⟩ := x; exact ⟨l, h.1 _ _ k hl, e⟩
  | .nmap, _, _, x => by simpa [VR] using x
  | .chan _, _, k, x => by simp only [VR] at x ⊢; obtain ⟨l, hl, e⟩ := x; exact ⟨l, h.1 _ _ k hl, e⟩
  | .nchan, _, _, x => by simpa [VR] using x
  | .fn _ a b, _, k, x => by simp only [VR] at x ⊢; simp only [idsLt] at k; obtain ⟨p, q, e, ha, hb⟩ := x; exact ⟨p, q, e, VRL.back h a p k.1 ha, VRL.back h b q k.2 hb⟩
  | .yld _, _, k, x => by simp only [VR] at x ⊢; obtain ⟨l, hl, e⟩ := x; exact ⟨l, h.1 _ _ k hl, e⟩
  | .nfn, _, _, x => by simpa [VR] using x
  | .ifc _ a, _, k, x => by simp only [VR] at x ⊢; simp only [idsLt] at k; obtain ⟨y, e, ha⟩ := x; exact ⟨y, e, VR.back h a y k ha⟩
  | .nifc, _, _, x => by simpa [VR] using x
  | .agg cs, _, k, x => by simp only [VR] at x ⊢; simp only [idsLt] at k; obtain ⟨p, e, ha⟩ := x; exact ⟨p, e, VRR.back h cs p k ha⟩
  | .tup vs, _, k, x => by simp only [VR] at x ⊢; simp only [idsLt] at k; obtain ⟨p, e, ha⟩ := x; exact ⟨p, e, VRL.back h vs p k ha⟩
  | .opq _, _, _, x => by simp only [VR] at x ⊢; rw [h.2]; exact x
theorem VRL.back (h : Only n E' E) : ∀ (as : List AV) (vs : List Value), idsLtL n as → VRL E' as vs → VRL E as vs
  | [], _, _, x => by simpa [VRL] using x
  | a :: as, _, k, x => by simp only [VRL] at x ⊢; simp only [idsLtL] at k; obtain ⟨y, r, e, ha, hr⟩ := x; exact ⟨y, r, e, VR.back h a y k.1 ha, VRL.back h as r k.2 hr⟩
theorem VRR.back (h : Only n E' E) : ∀ (rs : List (Nat × AV)) (vs : List Value), idsLtR n rs → VRR E' rs vs → VRR E rs vs
  | [], _, _, x => by simpa [VRR] using x
  | (_, a) :: r, _, k, x => by simp only [VRR] at x ⊢; simp only [idsLtR] at k; obtain ⟨p, q, e, hn, hp, hq⟩ := x; exact ⟨p, q, e, hn, fun y hy => ⟨VR.back h a y k.1 (hp y hy).1, (hp y hy).2⟩, VRR.back h r q k.2 hq⟩
end
mutual
/-- What was one of E's values is one of E's. -/
theorem VR.again (h : Only n E' E) (lt : ∀ i l, E.loc i = some l → i < n) : ∀ (a : AV) (u v : Value), VR E a u → VR E' a v → VR E a v
  | .bool _, _, _, _, x => by simpa [VR] using x
  | .int _ _, _, _, _, x => by simpa [VR] using x
  | .str _, _, _, _, x => by simpa [VR] using x
  | .ptr _ _, _, _, k, x => by simp only [VR] at k x ⊢; obtain ⟨l, hl, e⟩ := x; obtain ⟨m, hm, _⟩ := k; exact ⟨l, h.1 _ _ (lt _ _ hm) hl, e⟩
  | .nptr, _, _, _, x => by simpa [VR] using x
  | .sl _ _ _ (.ex _), _, _, k, x => by simp only [VR] at k x ⊢; obtain ⟨l, hl, e⟩ := x; obtain ⟨m, hm, _⟩ := k; exact ⟨l, h.1 _ _ (lt _ _ hm) hl, e⟩
  | .sl _ _ _ (.rest _), _, _, k, x => by simp only [VR] at k x ⊢; obtain ⟨l, hl, e⟩ := x; obtain ⟨m, hm, _⟩ := k; exact ⟨l, h.1 _ _ (lt _ _ hm) hl, e⟩
  | .nsl, _, _, _, x => by simpa [VR] using x
  | .map _, _, _, k, x => by simp only [VR] at k x ⊢; obtain ⟨l, hl, e⟩ := x; obtain ⟨m, hm, _⟩ := k; exact ⟨l, h.1 _ _ (lt _ _ hm) hl, e⟩
  | .nmap, _, _, _, x => by simpa [VR] using x
  | .chan _, _, _, k, x => by simp only [VR] at k x ⊢; obtain ⟨l, hl, e⟩ := x; obtain ⟨m, hm, _⟩ := k; exact ⟨l, h.1 _ _ (lt _ _ hm) hl, e⟩
  | .nchan, _, _, _, x => by simpa [VR] using x
  | .fn _ a b, _, _, k, x => by simp only [VR] at k x ⊢; obtain ⟨p, q, e, ha, hb⟩ := x; obtain ⟨p0, q0, _, ha0, hb0⟩ := k; exact ⟨p, q, e, VRL.again h lt a p0 p ha0 ha, VRL.again h lt b q0 q hb0 hb⟩
  | .yld _, _, _, k, x => by simp only [VR] at k x ⊢; obtain ⟨l, hl, e⟩ := x; obtain ⟨m, hm, _⟩ := k; exact ⟨l, h.1 _ _ (lt _ _ hm) hl, e⟩
  | .nfn, _, _, _, x => by simpa [VR] using x
  | .ifc _ a, _, _, k, x => by simp only [VR] at k x ⊢; obtain ⟨y, e, ha⟩ := x; obtain ⟨y0, _, ha0⟩ := k; exact ⟨y, e, VR.again h lt a y0 y ha0 ha⟩
  | .nifc, _, _, _, x => by simpa [VR] using x
  | .agg cs, _, _, k, x => by simp only [VR] at k x ⊢; obtain ⟨p, e, ha⟩ := x; obtain ⟨p0, _, ha0⟩ := k; exact ⟨p, e, VRR.again h lt cs p0 p ha0 ha⟩
  | .tup vs, _, _, k, x => by simp only [VR] at k x ⊢; obtain ⟨p, e, ha⟩ := x; obtain ⟨p0, _, ha0⟩ := k; exact ⟨p, e, VRL.again h lt vs p0 p ha0 ha⟩
  | .opq _, _, _, _, x => by simp only [VR] at x ⊢; rw [h.2]; exact x
theorem VRL.again (h : Only n E' E) (lt : ∀ i l, E.loc i = some l → i < n) : ∀ (as : List AV) (us vs : List Value), VRL E as us → VRL E' as vs → VRL E as vs
  | [], _, _, _, x => by simpa [VRL] using x
  | a :: as, _, _, k, x => by simp only [VRL] at k x ⊢; obtain ⟨y, r, e, ha, hr⟩ := x; obtain ⟨y0, r0, _, ha0, hr0⟩ := k; exact ⟨y, r, e, VR.again h lt a y0 y ha0 ha, VRL.again h lt as r0 r hr0 hr⟩
theorem VRR.again (h : Only n E' E) (lt : ∀ i l, E.loc i = some l → i < n) : ∀ (rs : List (Nat × AV)) (us vs : List Value), VRR E rs us → VRR E' rs vs → VRR E rs vs
  | [], _, _, _, x => by simpa [VRR] using x
  | (m, a) :: r, _, _, k, x => by
    simp only [VRR] at k x ⊢
    obtain ⟨p, q, e, hm, hp, hq⟩ := x
    obtain ⟨p0, q0, _, hm0, hp0, hq0⟩ := k
    refine ⟨p, q, e, hm, fun y hy => ⟨?_, (hp y hy).2⟩, VRR.again h lt r q0 q hq0 hq⟩
    cases p0 with
    | nil => simp only [List.length_nil] at hm0; subst hm0; cases p with
      | nil => cases hy
      | cons z zs => simp at hm
    | cons z zs => exact VR.again h lt a z y (hp0 z (by simp)).1 (hp y hy).1
end
theorem CR.again (h : Only n E' E) (lt : ∀ i l, E.loc i = some l → i < n) {as : List AV} {us vs : List Value} (k : CR E as us) (x : CR E' as vs) : CR E as vs := by
  refine ⟨x.1, fun i a v ha hv => ⟨?_, (x.2 i a v ha hv).2⟩⟩
  obtain ⟨u, hu, hau, _⟩ := k.get ha
  exact VR.again h lt a u v hau (x.2 i a v ha hv).1
theorem LR.again (h : Only n E' E) (lt : ∀ i l, E.loc i = some l → i < n) {as : List AV} {us vs : List Value} (k : LR E as us) (x : LR E' as vs) : LR E as vs := by
  refine ⟨x.1, fun i a v ha hv => ?_⟩
  obtain ⟨u, hu, hau⟩ := k.get ha
  exact VR.again h lt a u v hau (x.2 i a v ha hv)
theorem ER.again (h : Only n E' E) (lt : ∀ i l, E.loc i = some l → i < n) {es : List Ent} {ms0 ms : List MapEntry} (k : ER E es ms0) (x : ER E' es ms) : ER E es ms := by
  refine ⟨x.1, fun i e m he hm => ?_⟩
  obtain ⟨a, b, c⟩ := x.2 i e m he hm
  have hi : i < ms0.length := by rw [← k.1]; exact (List.getElem?_eq_some_iff.1 he).1
  obtain ⟨a0, b0, _⟩ := k.2 i e ms0[i] he (by simp [hi])
  exact ⟨VR.again h lt _ _ _ a0 a, VR.again h lt _ _ _ b0 b, c⟩
theorem TR.again (h : Only n E' E) (lt : ∀ i l, E.loc i = some l → i < n) {sz : Nat} {tm : T AV} {t0 t : Array Value} (k : TR E sz tm t0) (x : TR E' sz tm t) : TR E sz tm t :=
  ⟨x.1, fun i a ha => VR.again h lt a _ _ (k.2 i a ha) (x.2 i a ha)⟩
/-- What was one of E's objects is one of E's. -/
theorem OR.again (h : Only n E' E) (lt : ∀ i l, E.loc i = some l → i < n) {w w' : World} {l l' : Loc} {o : AObj} (k : OR E w l o) (x : OR E' w' l' o) : OR E w' l' o := by
  cases o with
  | cells e rs op => obtain ⟨a, b, c, fr, h1, h2, h3, h4⟩ := x; obtain ⟨_, b0, _, _, _, _, k3, _⟩ := k; exact ⟨a, b, c, fr, h1, h2, CR.again h lt k3 h3, h4⟩
  | ro rs => obtain ⟨a, b, c, e, fr, h1, h2, h3⟩ := x; obtain ⟨_, b0, _, _, _, _, _, k3⟩ := k; exact ⟨a, b, c, e, fr, h1, h2, CR.again h lt k3 h3⟩
  | map es c => obtain ⟨ms, h1, h2⟩ := x; obtain ⟨ms0, _, k2⟩ := k; exact ⟨ms, h1, ER.again h lt k2 h2⟩
  | siter s p => exact x
  | miter m a seen st =>
    obtain ⟨h0, m', h1, h2⟩ := x
    obtain ⟨_, m0, _, k2⟩ := k
    refine ⟨h0, m', h1, ?_⟩
    cases m with
    | none => exact h2
    | some i => obtain ⟨j, hj, e⟩ := h2; obtain ⟨j0, hj0, _⟩ := k2; exact ⟨j, h.1 _ _ (lt _ _ hj0) hj, e⟩
  | loop L => obtain ⟨fn, tmps, j, hj, h1, h2⟩ := x; obtain ⟨_, tmps0, j0, hj0, k1, _⟩ := k; exact ⟨fn, tmps, j, h.1 _ _ (lt _ _ hj0) hj, TR.again h lt k1 h1, h2⟩
  | dfr shut => exact x
  | dead => trivial
/-- An object none of whose ids is new. -/
def oIdsLt (n : Nat) : AObj → Prop
  | .cells _ rs _ | .ro rs => ∀ a ∈ rflat rs, idsLt n a
  | .map es _ => ∀ e ∈ es, idsLt n e.key ∧ idsLt n e.val
  | .miter m _ _ _ => ∀ i, m = some i → i < n
  | .loop _ => False
  | _ => True
theorem OR.back (h : Only n E' E) {w : World} {l : Loc} {o : AObj} (k : oIdsLt n o) (x : OR E' w l o) : OR E w l o := by
  have hcr : ∀ {as : List AV} {vs : List Value}, (∀ a ∈ as, idsLt n a) → CR E' as vs → CR E as vs := fun k x =>
    ⟨x.1, fun i a v ha hv => ⟨VR.back h a v (k a (List.mem_of_getElem? ha)) (x.2 i a v ha hv).1, (x.2 i a v ha hv).2⟩⟩
  cases o with
  | cells e rs op => obtain ⟨a, b, c, fr, h1, h2, h3, h4⟩ := x; exact ⟨a, b, c, fr, h1, h2, hcr k h3, h4⟩
  | ro rs => obtain ⟨a, b, c, e, fr, h1, h2, h3⟩ := x; exact ⟨a, b, c, e, fr, h1, h2, hcr k h3⟩
  | map es c =>
    obtain ⟨ms, h1, h2⟩ := x
    refine ⟨ms, h1, h2.1, fun i e m he hm => ?_⟩
    obtain ⟨a, b, c⟩ := h2.2 i e m he hm
    obtain ⟨ka, kb⟩ := k e (List.mem_of_getElem? he)
    exact ⟨VR.back h _ _ ka a, VR.back h _ _ kb b, c⟩
  | siter s p => exact x
  | miter m a seen st =>
    obtain ⟨h0, m', h1, h2⟩ := x
    refine ⟨h0, m', h1, ?_⟩
    cases m with
    | none => exact h2
    | some i => obtain ⟨j, hj, e⟩ := h2; exact ⟨j, h.1 _ _ (k i rfl) hj, e⟩
  | loop L => exact k.elim
  | dfr shut => exact x
  | dead => trivial
end
/-- The call's own blocks are forgotten. -/
theorem Ret.reset {C : Cx} {f : FuncId} {args : List AV} {S : AW} {Q Q' : AV → AW → Prop} (h : Ret C f args S Q)
    (k : ∀ v s, Q v s → ∃ s', Q' v s' ∧ s'.next = S.next ∧ idsLt S.next v ∧ ∀ i o, s'.heap.get i = some o → i < S.next ∧ s.heap.get i = some o ∧ (S.heap.get i = some o ∨ oIdsLt S.next o)) : Ret C f args S Q' := by
  refine ⟨fun {E w vs} hS ha => ?_⟩
  obtain ⟨h1, h2⟩ := h.go hS ha
  refine ⟨h1, fun n => CallsIn.mono (h2 n) ?_⟩
  rintro e w' ⟨v, s, x, E', hq, rfl, hv, hs, hG⟩
  obtain ⟨s', hq', hn, hidv, hk⟩ := k v s hq
  have lt : ∀ i l, E.loc i = some l → i < S.next := fun i l hl => by
    rcases Nat.lt_or_ge i S.next with h | h
    · exact h
    · rw [hS.new i h] at hl; cases hl
  have honly : Only S.next E' E := by
    refine ⟨fun i l hi hl => ?_, hG.le.om.symm⟩
    cases he : E.loc i with
    | none => rw [hG.fresh i hi he] at hl; cases hl
    | some l0 => rw [hG.le.loc i l0 he] at hl; exact hl
  have hobj : ∀ i o, s'.heap.get i = some o → ∃ l, E.loc i = some l ∧ OR E w' l o := by
    intro i o hi
    obtain ⟨hlt, hsi, hor⟩ := hk i o hi
    obtain ⟨l, hl, ho⟩ := hs.obj i o hsi
    have hl' := honly.1 i l hlt hl
    refine ⟨l, hl', ?_⟩
    rcases hor with h0 | h0
    · obtain ⟨l0, hl0, ho0⟩ := hS.obj i o h0
      exact OR.again honly lt ho0 ho
    · exact OR.back honly h0 ho
  refine ⟨v, s', x, E, hq', rfl, VR.back honly v x hidv hv, ⟨hobj, fun i j o o' l l' hi hj ho ho' hl hl' hb => ?_, fun i hi => hS.new i (by rw [← hn]; exact hi), hS.glob⟩, ?_⟩
  · exact hs.inj i j o o' l l' (hk i o hi).2.1 (hk j o' hj).2.1 ho ho' (hG.le.loc i l hl) (hG.le.loc j l' hl') hb
  · exact ⟨Le.refl E, hG.os, hG.tape, hG.output, hG.size, hG.keep, fun i o l hi ho hl => hG.own i o l (hk i o hi).2.1 ho (hG.le.loc i l hl), by rw [hn]; exact Nat.le_refl _, fun i _ h => h⟩
end Go.Ev
namespace Go.Ev
/-- What an evaluation comes to meets Q. -/
def RsOk (Q : AQ) : Rs → Prop
  | .no => False
  | .mk x t d s => Q x t d s
theorem runs_rs {C : Cx} (hm : C.P.follows .mixedOrders = true) {rnd : Option Nat} {sz : Nat} {tm : T AV} {dfs : List ADef} {S : AW} {Q : AQ} {c : Code} (h : RsOk Q (codeK c C iv0 1 rnd sz tm dfs S)) : Runs C rnd sz c tm dfs S Q := by
  cases hr : codeK c C iv0 1 rnd sz tm dfs S with
  | no => rw [hr] at h; exact h.elim
  | mk x t d s => rw [hr] at h; exact runs_eval (iv0_ok C) hm hr h
section
variable {C : Cx} {R : Iv} {N : Nat} {rnd : Option Nat} {sz : Nat} {tm : T AV} {dfs : List ADef} {S : AW}
theorem codeK_region (id : Nat) (ops : Array Oper) : codeK (.region id ops false) C R N rnd sz tm dfs S = stepsK (stepOp stepH C R rnd sz ops.toList) ops.toList tm dfs S := rfl
theorem codeK_seq (a b : Code) : codeK (.seq a b) C R N rnd sz tm dfs S = rsThen (codeK b C R N rnd sz) (codeK a C R N rnd sz tm dfs S) := rfl
theorem codeK_cond (o : Operand) (a b : Code) : codeK (.cond o a b) C R N rnd sz tm dfs S = orNo (aev tm o) fun v => orNo (dBool v) fun t => iteB t (codeK a C R N rnd sz tm dfs S) (codeK b C R N rnd sz tm dfs S) := rfl
theorem codeK_block (id : Nat) (c : Code) : codeK (.block id c) C R N rnd sz tm dfs S = rsBlock id (codeK c C R N rnd sz tm dfs S) := rfl
theorem codeK_skip : codeK .skip C R N rnd sz tm dfs S = .mk .normal tm dfs S := rfl
theorem codeK_exit (id : Nat) : codeK (.exit id) C R N rnd sz tm dfs S = .mk (.exit id) tm dfs S := rfl
theorem codeK_ret : codeK .ret C R N rnd sz tm dfs S = .mk .ret tm dfs S := rfl
theorem rsThen_normal (k : K) : rsThen k (.mk .normal tm dfs S) = k tm dfs S := rfl
theorem rsThen_exit (k : K) (i : Nat) : rsThen k (.mk (.exit i) tm dfs S) = .mk (.exit i) tm dfs S := rfl
theorem rsThen_ret (k : K) : rsThen k (.mk .ret tm dfs S) = .mk .ret tm dfs S := rfl
theorem orNo_some_eq {α : Type} (a : α) (f : α → Rs) : orNo (some a) f = f a := rfl
theorem stepOp_eq (ops : List Oper) (o : Oper) (k : K) : stepOp stepH C R rnd sz ops o tm dfs S k = orNo (wantedV ops tm o) fun w => iteB w (stepH (opH o.op) C R rnd sz o.dst tm dfs S k) (orNo (putT sz o.dst undefV tm) fun tm' => k tm' dfs S) := rfl
theorem wantedV_none (ops : List Oper) (d : Option Tmp) (op : Op) (t : TypeId) (p : String) (a : Array Edge) : wantedV ops tm ⟨d, op, t, p, a, none⟩ = some true := rfl
theorem opH_move (x : Operand) : opH (.move x) = .val (vMove x) := rfl
theorem opH_assign (x : Operand) : opH (.assign x) = .val (vMove x) := rfl
theorem opH_alloc (t : TypeId) : opH (.alloc t) = .new (nAlloc t) := rfl
theorem opH_box (t : TypeId) (x : Operand) : opH (.box t x) = .new (nBox t x) := rfl
theorem opH_load (t : TypeId) (x : Operand) : opH (.load t x) = .rdr (vLoad t x) := rfl
theorem opH_store (t : TypeId) (a x : Operand) : opH (.store t a x) = .act (aStore t a x) := rfl
theorem opH_nilCheck (x : Operand) : opH (.nilCheck x) = .val (vNil x) := rfl
theorem opH_binOp (op : BinOp) (t : TypeId) (x y : Operand) (u : TypeId) : opH (.binOp op t x y u) = .val (vBin op t x y) := rfl
theorem opH_unOp (op : UnOp) (t : TypeId) (x : Operand) : opH (.unOp op t x) = .val (vUn op x) := rfl
theorem opH_convert (s d : TypeId) (x : Operand) : opH (.convert s d x) = .va (vConv s d x) (aConv s d x) := rfl
theorem opH_fieldAddr (t : TypeId) (x : Operand) (k : Nat) : opH (.fieldAddr t x k) = .val (vFieldAddr t x k) := rfl
theorem opH_indexAddr (t : TypeId) (x i : Operand) : opH (.indexAddr t x i) = .val (vIndexAddr t x i) := rfl
theorem opH_extract (x : Operand) (i : Nat) : opH (.extract x i) = .val (vExtract x i) := rfl
theorem opH_range (t : TypeId) (x : Operand) : opH (.range t x) = .act (aRange t x) := rfl
theorem opH_entry (x : Operand) : opH (.entry x) = .rdr (vEntry x) := rfl
theorem stepH_val (f : VH) (d : Option Tmp) (k : K) : stepH (.val f) C R rnd sz d tm dfs S k = orNo (f C tm S) fun v => orNo (putT sz d v tm) fun tm' => k tm' dfs S := rfl
theorem stepH_rdr (f : VH) (d : Option Tmp) (k : K) : stepH (.rdr f) C R rnd sz d tm dfs S k = orNo (f C tm S) fun v => orNo (putT sz d v tm) fun tm' => k tm' dfs S := rfl
theorem stepH_new (f : NH) (d : Option Tmp) (k : K) : stepH (.new f) C R rnd sz d tm dfs S k = orNo (f C tm S.next) fun p => orNo (putT sz d p.1 tm) fun tm' => k tm' dfs { heap := S.heap.set S.next p.2, next := Nat.succ S.next } := by
  show sNew f C R rnd sz d tm dfs S k = _
  unfold sNew
  exact forceN_eq _ _
theorem stepH_act (f : AH) (d : Option Tmp) (k : K) : stepH (.act f) C R rnd sz d tm dfs S k = orNo (f C R rnd tm S) fun p => orNo (putT sz d p.1 tm) fun tm' => k tm' dfs p.2 := rfl
theorem stepH_va {f : VH} {g : AH} {v : AV} (d : Option Tmp) (k : K) (h : f C tm S = some v) : stepH (.va f g) C R rnd sz d tm dfs S k = orNo (putT sz d v tm) fun tm' => k tm' dfs S := by
  show oel _ (f C tm S) _ = _
  rw [h]; rfl
theorem putT_some {d : Nat} (h : Nat.blt d sz = true) (v : AV) : putT sz (some d) v tm = some (tm.set d v) := by
  simp only [putT, oel_some, tst_some, forceV_eq]
  exact ⟨h, trivial⟩
theorem putT_none (v : AV) : putT sz none v tm = some tm := rfl
theorem doneK_eq : doneK tm dfs S = .mk .normal tm dfs S := rfl
theorem aev_tmp (t : Nat) : aev tm (.tmp t) = tm.get t := rfl
theorem aev_int (k : IntKind) (n : Int) : aev tm (.const (.int k n)) = some (.int k n) := rfl
theorem aev_bool (b : Bool) : aev tm (.const (.bool b)) = some (.bool b) := rfl
theorem aev_nilp : aev tm (.const (.pointer none)) = some .nptr := rfl
theorem aev_nils : aev tm (.const (.slice none 0 0)) = some .nsl := rfl
end
theorem ob_some_eq {α β : Type} (a : α) (f : α → Option β) : ob (some a) f = f a := rfl
theorem iteB_t {α : Type} (x y : α) : iteB true x y = x := rfl
theorem iteB_f {α : Type} (x y : α) : iteB false x y = y := rfl
theorem tst_t {α : Type} (x : Option α) : tst true x = x := rfl
end Go.Ev
namespace Go.Ev
theorem OR.lt {E : Env} {w : World} {l : Loc} {o : AObj} (h : OR E w l o) (hl : live o) : l.blk < w.heap.size := by
  cases o with
  | cells e rs op => obtain ⟨_, _, _, _, h1, _⟩ := h; exact (Array.getElem?_eq_some_iff.1 h1).1
  | ro rs => obtain ⟨_, _, _, _, _, h1, _⟩ := h; exact (Array.getElem?_eq_some_iff.1 h1).1
  | map es c => obtain ⟨_, h1, _⟩ := h; exact (Array.getElem?_eq_some_iff.1 h1).1
  | siter s p => obtain ⟨_, h1, _⟩ := h; exact (Array.getElem?_eq_some_iff.1 h1).1
  | miter m a seen st => obtain ⟨_, _, h1, _⟩ := h; exact (Array.getElem?_eq_some_iff.1 h1).1
  | loop L => obtain ⟨_, _, _, _, _, h1⟩ := h; exact (Array.getElem?_eq_some_iff.1 h1).1
  | dfr b => exact (Array.getElem?_eq_some_iff.1 h).1
  | dead => exact hl.elim
/-- What was below is as it was. -/
theorem Sim.below {E : Env} {S : AW} {w w' : World} (h : Sim E S w) (hb : RowKit.Below w.heap.size w w') : Sim E S w' ∧ ∀ n, Grow n E S w E S w' := by
  refine ⟨⟨fun i o hi => ?_, h.inj, h.new, h.glob⟩, fun n => ⟨Le.refl E, hb.os, hb.tape, hb.output, hb.size, fun b hlt _ => hb.block b hlt, fun i o l hi hl he => .inr ⟨i, o, l, hi, hl, he, rfl, id⟩, Nat.le_refl _, fun _ _ h => h⟩⟩
  obtain ⟨l, hl, ho⟩ := h.obj i o hi
  refine ⟨l, hl, ?_⟩
  by_cases hv : live o
  · exact ho.heap (hb.block _ (ho.lt hv))
  · cases o <;> first | trivial | exact absurd trivial hv
theorem ret_closed {C : Cx} {R : Iv} (hR : IvOk C R) {f : FuncId} {args : List AV} {v : AV} {B S S1 : AW} (hx : C.ext f = none) (hrun : R.call f args B = some (v, S1)) (hB : B.next = 1000) (hro : ∀ i o, B.heap.get i = some o → i < 1000 ∧ ¬ wr o ∧ oIdsLt 1000 o ∧ S.heap.get i = some o)
    (hargs : idsLtL 1000 args) (hv : idsLt 1000 v) : Ret C f args S (fun v' s => v' = v ∧ s = S) := by
  refine ⟨fun {E w vs} hS ha => ?_⟩
  have hEl : ∀ i, i < 1000 → (envOf E.om).loc i = E.loc i := fun i hi => by
    rw [hS.glob i hi]; simp [envOf, hi]
  have hback : Only 1000 E (envOf E.om) := ⟨fun i l hi hl => by rw [hEl i hi]; exact hl, rfl⟩
  have hSB : Sim (envOf E.om) B w := by
    refine ⟨fun i o hi => ?_, fun i j o o' l l' hi hj ho ho' hl hl' hb => ?_, fun i hi => ?_, fun g hg => by rw [hEl g hg]; exact hS.glob g hg⟩
    · obtain ⟨h1, h2, h3, h4⟩ := hro i o hi
      obtain ⟨l, hl, ho⟩ := hS.obj i o h4
      exact ⟨l, by rw [hEl i h1]; exact hl, OR.back hback h3 ho⟩
    · obtain ⟨h1, h2, h3, h4⟩ := hro i o hi
      obtain ⟨k1, k2, k3, k4⟩ := hro j o' hj
      rw [hEl i h1] at hl; rw [hEl j k1] at hl'
      exact hS.inj i j o o' l l' h4 k4 ho ho' hl hl' hb
    · rw [hB] at hi
      have : ¬ i < 1000 := Nat.not_lt.2 hi
      simp [envOf, this]
  have haB : LR (envOf E.om) args vs := VRL_iff.1 (VRL.back hback args vs hargs (VRL_iff.2 ha))
  rcases hR.call hrun hSB haB with ⟨h1, h2⟩ | ⟨h1, _⟩
  · refine ⟨h1, fun n => CallsIn.mono (h2 n) ?_⟩
    rintro e w' ⟨x, E', rfl, hx, hs, hG⟩
    have hbel := hG.below fun i o hi => (hro i o hi).2.1
    obtain ⟨q1, q2⟩ := hS.below hbel
    refine ⟨v, S, x, E, ⟨rfl, rfl⟩, rfl, ?_, q1, q2 _⟩
    refine VR.back (n := 1000) (E := E) (E' := E') ⟨fun i l hi hl => ?_, hG.le.om.symm⟩ v x hv hx
    have h3 := hG.le.loc i ⟨i, 0, 0⟩ (by simp [envOf, hi])
    rw [hl] at h3; cases h3
    exact hS.glob i hi
  · exact absurd hx h1
theorem noRo {S : AW} : ∀ i o, emptyW.heap.get i = some o → i < 1000 ∧ ¬ wr o ∧ oIdsLt 1000 o ∧ S.heap.get i = some o := fun i o h => nomatch (show (none : Option AObj) = some o from h)
theorem runs_ev {C : Cx} (hm : C.P.follows .mixedOrders = true) {rnd : Option Nat} {sz : Nat} {tm : T AV} {dfs : List ADef} {S : AW} {Q : AQ} {c : Code} {x : Exit} {t : T AV} {d : List ADef} {s : AW} (h : codeK c C iv0 1 rnd sz tm dfs S = .mk x t d s) (k : Q x t d s) : Runs C rnd sz c tm dfs S Q :=
  runs_eval (iv0_ok C) hm h k
end Go.Ev
namespace Go.Ev
section
variable {C : Cx} {rnd : Option Nat} {sz : Nat} {tm : T AV} {dfs : List ADef} {S : AW} {Q : AQ}
abbrev AK := T AV → List ADef → AW → Prop
theorem runs_mid {a b : Code} (K : AK) (h : Runs C rnd sz a tm dfs S (AThen K Q)) (k : ∀ t d s, K t d s → Runs C rnd sz b t d s Q) : Runs C rnd sz (.seq a b) tm dfs S Q := by
  refine runs_seq (h.mono fun e t d s hq => ?_)
  cases e with
  | normal => exact k t d s hq
  | _ => exact hq
/-- how a round of a loop in a block may end -/
def LoopQ (id : Nat) (I : Nat → AK) (m : Nat) (P : AK) (Q : AQ) : AQ := fun e t d s => match e with
  | .normal => ∃ k, k < m ∧ I k t d s
  | .exit i => if i = id then P t d s else Q (.exit i) t d s
  | e => Q e t d s
theorem runs_while {id : Nat} {c : Code} (I : Nat → AK) (m0 : Nat) (P : AK) (h0 : I m0 tm dfs S) (h : ∀ m t d s, I m t d s → Runs C rnd sz c t d s (LoopQ id I m P Q)) : Runs C rnd sz (.block id (.loop c)) tm dfs S (AThen P Q) := by
  refine runs_block (runs_loop I m0 h0 fun m t d s hI => (h m t d s hI).mono fun e t d s hq => ?_)
  cases e with
  | normal => exact hq
  | exit i =>
    simp only [AThen, ABlock]
    simp only [LoopQ] at hq
    split
    · rename_i e; rw [if_pos e] at hq; exact hq
    · rename_i e; rw [if_neg e] at hq; exact hq
  | _ => exact hq
theorem stepsK_ok {R : Iv} (hR : IvOk C R) {ops : List Oper} {l : List Oper} (h : RsOk Q (stepsK (stepOp stepH C R rnd sz ops) l tm dfs S)) : Ops C rnd sz ops l tm dfs S Q := by
  refine ⟨fun {F n E w act} hF hA hsz => ?_⟩
  cases hr : stepsK (stepOp stepH C R rnd sz ops) l tm dfs S with
  | no => rw [hr] at h; exact h.elim
  | mk x t d s =>
    rw [hr] at h
    refine wpListIn_mono ?_ l (regS_ok hR l hr hF hA hsz (Grow.refl _ _ _ _))
    rintro e a w' ⟨rfl, E', h1, h2, h3⟩
    exact ⟨t, d, s, E', h, h1, h2, h3⟩
theorem ops_rest {ops l : List Oper} (h : RsOk Q (stepsK (stepOp stepH C iv0 rnd sz ops) l tm dfs S)) : Ops C rnd sz ops l tm dfs S Q := stepsK_ok (iv0_ok C) h
theorem rsOk_mk (x : Exit) : RsOk Q (.mk x tm dfs S) = Q x tm dfs S := rfl
theorem aThen_normal (K : AK) : AThen K Q .normal tm dfs S = K tm dfs S := rfl
theorem aThen_exit (K : AK) (i : Nat) : AThen K Q (.exit i) tm dfs S = Q (.exit i) tm dfs S := rfl
theorem aThen_ret (K : AK) : AThen K Q .ret tm dfs S = Q .ret tm dfs S := rfl
theorem loopQ_normal (id : Nat) (I : Nat → AK) (m : Nat) (P : AK) : LoopQ id I m P Q .normal tm dfs S = ∃ k, k < m ∧ I k tm dfs S := rfl
theorem loopQ_exit (id : Nat) (I : Nat → AK) (m : Nat) (P : AK) : LoopQ id I m P Q (.exit id) tm dfs S = P tm dfs S := if_pos rfl
theorem codeK_block_normal (id : Nat) : rsBlock id (.mk .normal tm dfs S) = .mk .normal tm dfs S := rfl
theorem get_set_same (t : Nat) (v : AV) : (tm.set t v).get t = some v := T.get_set_same tm t v
theorem get_set_lt {i j : Nat} (v : AV) (h : (j == i) = false) : (tm.set i v).get j = tm.get j := T.get_set_other tm v (by simpa using h)
end
end Go.Ev
namespace Go.Ev
theorem T.setp_setp {α : Type} (a b : α) (i : Nat) : ∀ (t : T α) (p : Nat), (t.setp i p a).setp i p b = t.setp i p b := by
  intro t
  induction t with
  | e => intro p; simp [T.setp_e, T.setp_n]
  | n k w l r ihl ihr =>
    intro p
    rw [T.setp_n, T.setp_n]
    cases h : Nat.beq k i with
    | true => simp [T.setp_n]
    | false =>
      cases h2 : Nat.beq (Nat.mod p 2) 0 with
      | true => simp only [cond_false, cond_true, T.setp_n, h, h2, ihl]
      | false => simp only [cond_false, T.setp_n, h, h2, ihr]
theorem T.set_set {α : Type} (t : T α) (i : Nat) (a b : α) : (t.set i a).set i b = t.set i b := T.setp_setp a b i t i

theorem unitA_eq (S : AW) : unitA (some S) = some (.tup [], S) := rfl
theorem storeCells_at {S : AW} {i off : Nat} {new : RL} {e : TypeId} {rs : RL} {op : Option Nat} (h : S.heap.get i = some (.cells e rs op)) : storeCellsV S i off new = ob (rput rs off new) fun rs' => some { heap := S.heap.set i (.cells e rs' op), next := S.next } := by
  unfold storeCellsV; rw [h]; rfl
theorem storeCells_at' {h : T AObj} {i : Nat} {e : TypeId} {rs : RL} {op : Option Nat} (hg : h.get i = some (.cells e rs op)) (n off : Nat) (new : RL) : storeCellsV { heap := h, next := n } i off new = ob (rput rs off new) fun rs' => some { heap := h.set i (.cells e rs' op), next := n } := storeCells_at (S := { heap := h, next := n }) hg
theorem storeCells_new {h : T AObj} {n i off : Nat} {new : RL} {e : TypeId} {rs : RL} {op : Option Nat} : storeCellsV { heap := h.set i (.cells e rs op), next := n } i off new = ob (rput rs off new) fun rs' => some { heap := h.set i (.cells e rs' op), next := n } := by
  rw [storeCells_at (S := { heap := h.set i (.cells e rs op), next := n }) (T.get_set_same _ _ _)]
  simp only [T.set_set]
theorem rcells_at {S : AW} {i : Nat} {o : AObj} (h : S.heap.get i = some o) : rcells S i = rowOf o := by
  unfold rcells; rw [h]; rfl
theorem rowOf_cells (e : TypeId) (rs : RL) (op : Option Nat) : rowOf (.cells e rs op) = some rs := rfl
theorem rowOf_ro (rs : RL) : rowOf (.ro rs) = some rs := rfl
theorem cellsOfV_agg (cs : RL) : cellsOfV (.agg cs) = some cs := rfl
theorem cellsOfV_int (k : IntKind) (n : Int) : cellsOfV (.int k n) = some [(1, .int k n)] := rfl
theorem cellsOfV_bool (b : Bool) : cellsOfV (.bool b) = some [(1, .bool b)] := rfl
theorem cellsOfV_map (i : Nat) : cellsOfV (.map i) = some [(1, .map i)] := rfl
theorem cellsOfV_sl (i o n : Nat) (c : Cap) : cellsOfV (.sl i o n c) = some [(1, .sl i o n c)] := rfl
theorem cellsOfV_ptr (i o : Nat) : cellsOfV (.ptr i o) = some [(1, .ptr i o)] := rfl
theorem putT_if {sz d : Nat} {tm : T AV} (v : AV) : putT sz (some d) v tm = if d < sz then some (tm.set d v) else none := by
  by_cases h : d < sz
  · rw [if_pos h]; exact putT_some (blt_iff.2 h) v
  · rw [if_neg h]
    have : Nat.blt d sz = false := blt_false.2 (Nat.le_of_not_lt h)
    simp only [putT, oel_some, this]
    rfl
theorem opH_call (c : Call) : opH (.call c) = hCallee c.callee c := rfl
theorem hCallee_builtin (b : Builtin) (c : Call) : hCallee (.builtin b) c = hBuiltin b c := rfl
theorem hBuiltin_len (c : Call) : hBuiltin .len c = .rdr (vLen c) := rfl
theorem hBuiltin_append (c : Call) : hBuiltin .append c = .act (aBuiltin bAppend c) := rfl
theorem hBuiltin_clear (c : Call) : hBuiltin .clear c = .act (aBuiltin bClear c) := rfl
theorem hBuiltin_copy (c : Call) : hBuiltin .copy c = .act (aBuiltin bCopy c) := rfl
theorem hBuiltin_delete (c : Call) : hBuiltin .delete c = .act (aBuiltin bDelete c) := rfl
theorem int_lit (n : Nat) : @OfNat.ofNat Int n instOfNat = Int.ofNat n := rfl
theorem lenV_sl {S : AW} {tt : T Ty} {t : TypeId} {d : Ty} {i o n : Nat} {c : Cap} (h : tt.get t = some d) (hs : ∃ e, d.und = .slice e) : lenV tt S t (.sl i o n c) = some n := by
  obtain ⟨e, he⟩ := hs
  simp only [lenV, h]
  cases d
  simp only at he
  subst he
  rfl
theorem dBool_bool (b : Bool) : dBool (.bool b) = some b := rfl
theorem dInt_int (k : IntKind) (n : Int) : dInt (.int k n) = some (k, n) := rfl
theorem dNat_nat (k : IntKind) (n : Nat) : dNat (.int k (.ofNat n)) = some n := rfl
theorem dPtr_ptr (i o : Nat) : dPtr (.ptr i o) = some (i, o) := rfl
theorem dMap_map (i : Nat) : dMap (.map i) = some i := rfl
theorem dSl_sl (i o n : Nat) (c : Cap) : dSl (.sl i o n c) = some ⟨i, o, n, c⟩ := rfl
theorem dTup_tup (l : List AV) : dTup (.tup l) = some l := rfl
theorem dAgg_agg (l : RL) : dAgg (.agg l) = some l := rfl
theorem dStr_str (l : List Nat) : dStr (.str l) = some l := rfl
theorem lget_zero {α : Type} (x : α) (l : List α) : lget (x :: l) 0 = some x := rfl
theorem lget_one {α : Type} (x y : α) (l : List α) : lget (x :: y :: l) 1 = some y := rfl
theorem lget_two {α : Type} (x y z : α) (l : List α) : lget (x :: y :: z :: l) 2 = some z := rfl
theorem notNil_ptr (i o : Nat) : notNil (.ptr i o) = true := rfl
theorem lmapO_nil' {α β : Type} (f : α → Option β) : lmapO f [] = some [] := rfl
theorem lmapO_cons' {α β : Type} (f : α → Option β) (x : α) (l : List α) : lmapO f (x :: l) = ob (f x) fun y => ob (lmapO f l) fun ys => some (y :: ys) := by
  rw [lmapO_cons]
  cases f x with
  | none => rfl
  | some y => show (match lmapO f l with | none => none | some ys => some (y :: ys)) = ob (lmapO f l) fun ys => some (y :: ys); cases lmapO f l <;> rfl
theorem stepH_va_eq {C : Cx} {R : Iv} {rnd : Option Nat} {sz : Nat} {tm : T AV} {dfs : List ADef} {S : AW} (f : VH) (g : AH) (d : Option Tmp) (k : K) : stepH (.va f g) C R rnd sz d tm dfs S k = oel (sAct g C R rnd sz d tm dfs S k) (f C tm S) fun v => orNo (putT sz d v tm) fun tm' => k tm' dfs S := rfl
theorem stepH_vn_eq {C : Cx} {R : Iv} {rnd : Option Nat} {sz : Nat} {tm : T AV} {dfs : List ADef} {S : AW} (f : VH) (g : NH) (d : Option Tmp) (k : K) : stepH (.vn f g) C R rnd sz d tm dfs S k = oel (sNew g C R rnd sz d tm dfs S k) (f C tm S) fun v => orNo (putT sz d v tm) fun tm' => k tm' dfs S := rfl
theorem oel_some_eq {α β : Type} (z : β) (a : α) (f : α → β) : oel z (some a) f = f a := rfl
theorem unV_xor {k : IntKind} {n : Int} (h : isSigned k = false) : unV .xor (.int k n) = bitsN Nat.xor xorH k (.ofNat (pmax k)) n := by
  show iteB (isSigned k) _ _ = _
  rw [h]; rfl
theorem opH_buildSlice (t : TypeId) (n : Nat) (ps : Array (Nat × Operand)) : opH (.buildSlice t n ps) = .new (nBuildSlice t n ps) := rfl
theorem opH_build (t : TypeId) (ps : Array (Nat × Operand)) : opH (.build t ps) = .val (vBuild t ps) := rfl
theorem opH_makeMap (t : TypeId) (r : Option Operand) : opH (.makeMap t r) = .new (nMakeMap t r) := rfl
theorem opH_mapUpdate (t : TypeId) (m k x : Operand) : opH (.mapUpdate t m k x) = .act (aMapUpdate t m k x) := rfl
theorem opH_pick (c a b : Operand) : opH (.pick c a b) = .val (vPick c a b) := rfl
theorem wantedV_some {ops : List Oper} {tm : T AV} (d : Option Tmp) (op : Op) (t : TypeId) (p : String) (a : Array Edge) (g : Nat × Bool) : wantedV ops tm ⟨d, op, t, p, a, some g⟩ = guardV ops tm g := rfl
theorem beqB_t (b : Bool) : beqB true b = b := rfl
theorem beqB_f (b : Bool) : beqB false b = notB b := rfl
theorem notB_t : notB true = false := rfl
theorem notB_f : notB false = true := rfl
theorem dTup_bool (b : Bool) : dTup (.bool b) = none := rfl
theorem rlen_one (a : AV) : rlen [(1, a)] = 1 := rfl
theorem beq_11 : Nat.beq 1 1 = true := rfl
theorem ob_none_eq {α β : Type} (f : α → Option β) : ob none f = none := rfl
theorem oel_none_eq {α β : Type} (z : β) (f : α → β) : oel z none f = z := rfl
theorem ieq_nat (a b : Nat) : ieq (.ofNat a) (.ofNat b) = Nat.beq b a := rfl
theorem ieq_neg_nat (a b : Nat) : ieq (.negSucc a) (.ofNat b) = false := rfl
theorem ilt_nat_neg (a b : Nat) : ilt (.ofNat a) (.negSucc b) = false := rfl
theorem ilt_neg_nat (a b : Nat) : ilt (.negSucc a) (.ofNat b) = true := rfl
theorem lget_tail {α : Type} (x : α) (l : List α) (n : Nat) : lget (x :: l) (n + 1) = lget l n := rfl
/- numbers -/
theorem ikeq_self (k : IntKind) : ikeq k k = true := by cases k <;> rfl
section
variable {C : Cx} {t : TypeId} {cx : Bool} {k j : IntKind} {x y : Int} {a b : Nat}
theorem binV_add : binV C .add t cx (.int k x) (.int k y) = some (.int k (wrapI k (iadd x y))) := by
  show intBin .add k x k y = _
  show tst (ikeq k k) (wI k (iadd x y)) = _
  rw [ikeq_self]; rfl
theorem binV_sub : binV C .sub t cx (.int k x) (.int k y) = some (.int k (wrapI k (isub x y))) := by
  show tst (ikeq k k) (wI k (isub x y)) = _
  rw [ikeq_self]; rfl
theorem binV_mul : binV C .mul t cx (.int k x) (.int k y) = some (.int k (wrapI k (imul x y))) := by
  show tst (ikeq k k) (wI k (imul x y)) = _
  rw [ikeq_self]; rfl
theorem binV_lss : binV C .lss t cx (.int k x) (.int k y) = some (.bool (ilt x y)) := by
  show tst (ikeq k k) (bB (ilt x y)) = _
  rw [ikeq_self]; rfl
theorem binV_leq : binV C .leq t cx (.int k x) (.int k y) = some (.bool (notB (ilt y x))) := by
  show tst (ikeq k k) (bB (notB (ilt y x))) = _
  rw [ikeq_self]; rfl
theorem binV_gtr : binV C .gtr t cx (.int k x) (.int k y) = some (.bool (ilt y x)) := by
  show tst (ikeq k k) (bB (ilt y x)) = _
  rw [ikeq_self]; rfl
theorem binV_geq : binV C .geq t cx (.int k x) (.int k y) = some (.bool (notB (ilt x y))) := by
  show tst (ikeq k k) (bB (notB (ilt x y))) = _
  rw [ikeq_self]; rfl
theorem binV_eql : binV C .eql t cx (.int k x) (.int k y) = some (.bool (ieq x y)) := by
  show tst (ikeq k k) (bB (ieq x y)) = _
  rw [ikeq_self]; rfl
theorem binV_neq : binV C .neq t cx (.int k x) (.int k y) = some (.bool (notB (ieq x y))) := by
  show tst (ikeq k k) (bB (notB (ieq x y))) = _
  rw [ikeq_self]; rfl
theorem binV_xor : binV C .xor t cx (.int k x) (.int k y) = bitsN Nat.xor xorH k x y := by
  show tst (ikeq k k) (bitsN Nat.xor xorH k x y) = _
  rw [ikeq_self]; rfl
theorem binV_and : binV C .and t cx (.int k x) (.int k y) = bitsN Nat.land andH k x y := by
  show tst (ikeq k k) (bitsN Nat.land andH k x y) = _
  rw [ikeq_self]; rfl
theorem binV_or : binV C .or t cx (.int k x) (.int k y) = bitsN Nat.lor orH k x y := by
  show tst (ikeq k k) (bitsN Nat.lor orH k x y) = _
  rw [ikeq_self]; rfl
theorem binV_shr : binV C .shr t cx (.int k (.ofNat a)) (.int j (.ofNat b)) = some (.int k (.ofNat (Nat.div a (Nat.pow 2 (shN k b))))) := rfl
theorem wrapI_ofNat (n : Nat) : wrapI k (.ofNat n) = wrapN k n := rfl
theorem wrapN_le {n : Nat} (h : n ≤ pmax k) : wrapN k n = .ofNat n := by
  have e : Nat.ble n (pmax k) = true := ble_iff.2 h
  unfold wrapN
  rw [e]; rfl
theorem iadd_nat : iadd (.ofNat a) (.ofNat b) = .ofNat (Nat.add a b) := rfl
theorem ilt_nat : ilt (.ofNat a) (.ofNat b) = Nat.blt a b := rfl
theorem isub_nat : isub (.ofNat a) (.ofNat b) = subNN a b := rfl
theorem subNN_le (h : b ≤ a) : subNN a b = .ofNat (Nat.sub a b) := by
  have e : Nat.ble b a = true := ble_iff.2 h
  unfold subNN; rw [e]; rfl
theorem pmax_i64 : pmax .i64 = 9223372036854775807 := rfl
theorem pmax_u8 : pmax .u8 = 255 := rfl
theorem pmax_u32 : pmax .u32 = 4294967295 := rfl
theorem umax_u32 : umax .u32 = 4294967295 := rfl
theorem umax_u8 : umax .u8 = 255 := rfl
theorem bitsN_le {g : Nat → Nat → Nat} {h : IntKind → Int → Int → Int} (ha : a ≤ umax k) (hb : b ≤ umax k) (hg : g a b ≤ pmax k) : bitsN g h k (.ofNat a) (.ofNat b) = some (.int k (.ofNat (g a b))) := by
  show iteB (andB (Nat.ble a (umax k)) (Nat.ble b (umax k))) (some (AV.int k (wrapN k (g a b)))) _ = _
  rw [ble_iff.2 ha, ble_iff.2 hb, wrapN_le hg]; rfl
end
theorem blt_t {a b : Nat} (h : a < b) : Nat.blt a b = true := blt_iff.2 h
theorem blt_f {a b : Nat} (h : b ≤ a) : Nat.blt a b = false := blt_false.2 h
theorem ble_t {a b : Nat} (h : a ≤ b) : Nat.ble a b = true := ble_iff.2 h
theorem ble_f {a b : Nat} (h : b < a) : Nat.ble a b = false := ble_false.2 h
theorem beq_t (a : Nat) : Nat.beq a a = true := beq_self a
theorem beq_f {a b : Nat} (h : a ≠ b) : Nat.beq a b = false := beq_of_ne h
theorem resultsV_one {tt : T Ty} {fn : Func} {t : T AV} {S : AW} {r : Tmp} {v : AV} (h : fn.results.toList = [.tmp r]) (hv : t.get r = some v) : resultsV tt fn t S = some v := by
  unfold resultsV
  rw [h, lmapO_cons', lmapO_nil']
  show ob (ob (t.get r) fun y => ob (some []) fun ys => some (y :: ys)) _ = _
  rw [hv]; rfl
theorem resultsV_none {tt : T Ty} {fn : Func} {t : T AV} {S : AW} (h : fn.results.toList = []) : resultsV tt fn t S = some (.tup []) := by
  unfold resultsV
  rw [h, lmapO_nil']; rfl
end Go.Ev
namespace Go.Ev
noncomputable section
/-- how an operation touches memory: 0 not, 1 reads, 2 makes, 3 acts, 4 not allowed -/
def kindOf : OpH → Nat
  | .val _ => 0
  | .rdr _ => 1
  | .new _ => 2
  | .act _ => 3
  | .call _ _ => 3
  | .vn _ _ => 2
  | .va _ _ => 1
  | _ => 4
def befAll (M : T Nat) (l : List Nat) (j : Nat) : Bool := l.all fun i => bef M i j
def afterOk (o : Oper) (j : Nat) : Bool := lall (fun e => orB (notB (bindsAny e)) (Nat.blt e.on j)) o.after.toList
def chkGo (M W : T Nat) : List Oper → Nat → List Nat → List Nat → List Nat → Bool
  | [], _, _, _, _ => true
  | o :: l, j, acts, reads, news => andB (andB (namesOk M W j o) (afterOk o j)) (match kindOf (opH o.op) with
    | 0 => chkGo M W l (j + 1) acts reads news
    | 1 => befAll M acts j && chkGo M W l (j + 1) acts (j :: reads) news
    | 2 => chkGo M W l (j + 1) acts reads (j :: news)
    | 3 => befAll M acts j && befAll M reads j && befAll M news j && chkGo M W l (j + 1) (j :: acts) reads news
    | _ => false)
def chkDraw (ops : List Oper) : Bool := match writers ops with
  | none => false
  | some W => Nat.beq W.2 (llen ops) && chkGo (masks ops) W.1 ops 0 [] [] []
/- what was made is laid -/
def layAll (pend : List (Nat × AObj)) (S : AW) : AW := pend.foldl (fun S p => S.put p.1 p.2) S
abbrev KD := Nat → T AV → AW → List (Nat × AObj) → Rs
def seqH (C : Cx) (R : Iv) (rnd : Option Nat) (sz base : Nat) (d : Option Tmp) (j : Nat) (tm : T AV) (S : AW) (pend : List (Nat × AObj)) (k : KD) : OpH → Rs
  | .val f => orNo (f C tm S) fun v => orNo (putT sz d v tm) fun tm' => k (j + 1) tm' S pend
  | .rdr f => orNo (f C tm S) fun v => orNo (putT sz d v tm) fun tm' => k (j + 1) tm' S pend
  | .new f => orNo (f C tm (base + j)) fun p => orNo (putT sz d p.1 tm) fun tm' => k (j + 1) tm' S ((base + j, p.2) :: pend)
  | .act f => orNo (f C R rnd tm (layAll pend S)) fun p => orNo (putT sz d p.1 tm) fun tm' => k (j + 1) tm' p.2 []
  | .call f c => orNo (aCall f c C R rnd tm (layAll pend S)) fun p => orNo (putT sz d p.1 tm) fun tm' => k (j + 1) tm' p.2 []
  | .vn f g => oel (orNo (g C tm (base + j)) fun p => orNo (putT sz d p.1 tm) fun tm' => k (j + 1) tm' S ((base + j, p.2) :: pend)) (f C tm S) fun v => orNo (putT sz d v tm) fun tm' => k (j + 1) tm' S pend
  | .va f _ => orNo (f C tm S) fun v => orNo (putT sz d v tm) fun tm' => k (j + 1) tm' S pend
  | _ => .no
def seqK (C : Cx) (R : Iv) (rnd : Option Nat) (sz base : Nat) (ops : List Oper) (dfs : List ADef) : List Oper → KD
  | [] => fun _ tm S pend => .mk .normal tm dfs (layAll pend S)
  | o :: l => fun j tm S pend => orNo (wantedV ops tm o) fun w => iteB w (seqH C R rnd sz base o.dst j tm S pend (seqK C R rnd sz base ops dfs l) (opH o.op)) (orNo (putT sz o.dst undefV tm) fun tm' => seqK C R rnd sz base ops dfs l (j + 1) tm' S pend)
end
section
variable {C : Cx} {R : Iv} {rnd : Option Nat} {sz base : Nat} {ops : List Oper} {dfs : List ADef} {M W : T Nat}
theorem befAll_iff {l : List Nat} {j : Nat} : befAll M l j = true ↔ ∀ i ∈ l, bef M i j = true := by simp [befAll]
/-- how the state of a drawn region stands to that of one in order -/
structure Same (s : DS) (j : Nat) (tm : T AV) (S : AW) (pend : List (Nat × AObj)) (acts reads news : List Nat) : Prop where
  j : s.j = j
  tm : s.tm = tm
  S : s.S = S
  pend : s.pend.map (fun p => (p.id, p.o)) = pend
  acts : ∀ a ∈ s.acts, a.j ∈ acts
  reads : ∀ a ∈ s.reads, a.j ∈ reads
  news : ∀ a ∈ s.pend, a.j ∈ news
theorem lay_all {s : List Pd} {j : Nat} (h : ∀ p ∈ s, bef M p.j j = true) : ∀ S : AW, layPend M j s S = layAll (s.map fun p => (p.id, p.o)) S := by
  unfold layPend
  induction s with
  | nil => intro S; rfl
  | cons p s ih =>
    intro S
    rw [lfold_cons, List.map_cons]
    show lfold _ s (iteB (bef M p.j j) (S.put p.id p.o) S) = layAll (s.map fun p => (p.id, p.o)) (S.put p.id p.o)
    rw [h p (by simp), iteB_t]
    exact ih (fun q hq => h q (by simp [hq])) _
theorem seq_ok' : ∀ (l : List Oper) {j : Nat} {tm : T AV} {S : AW} {pend : List (Nat × AObj)} {acts reads news : List Nat} {s : DS} {x : Exit} {tm' : T AV} {d' : List ADef} {S' : AW}, chkGo M W l j acts reads news = true → Same s j tm S pend acts reads news → seqK C R rnd sz base ops dfs l j tm S pend = .mk x tm' d' S' →
    ∃ s', lfoldO (stepD C R rnd sz ops base M W) l s = some s' ∧ x = .normal ∧ s'.tm = tm' ∧ d' = dfs ∧ lfold (fun (S : AW) (p : Pd) => S.put p.id p.o) s'.pend s'.S = S'
  | [], j, tm, S, pend, acts, reads, news, s, x, tm', d', S', _, hs, h => by
    cases h
    refine ⟨s, rfl, rfl, hs.tm, rfl, ?_⟩
    rw [lfold_eq, ← hs.S, ← hs.pend]
    unfold layAll
    rw [List.foldl_map]
  | o :: l, j, tm, S, pend, acts, reads, news, s, x, tm', d', S', hc, hs, h => by
    suffices hG : ∃ s1, stepD C R rnd sz ops base M W s o = some s1 ∧ ∃ s', lfoldO (stepD C R rnd sz ops base M W) l s1 = some s' ∧ x = .normal ∧ s'.tm = tm' ∧ d' = dfs ∧ lfold (fun (S : AW) (p : Pd) => S.put p.id p.o) s'.pend s'.S = S' by
      obtain ⟨s1, h1, s', h2, h3⟩ := hG
      exact ⟨s', by rw [lfoldO_cons, h1]; exact h2, h3⟩
    simp only [chkGo, andB_eq, Bool.and_eq_true] at hc
    obtain ⟨⟨hn, ha⟩, hc⟩ := hc
    obtain ⟨w, hw, h⟩ := orNo_some (show orNo (wantedV ops tm o) _ = _ from h) (by simp)
    have hstep : stepD C R rnd sz ops base M W s o = iteB w (drawH (opH o.op) C R rnd sz base M o.dst s) (ob (putT sz o.dst undefV s.tm) fun tm => some (s.val tm)) := by
      unfold stepD
      rw [hs.j, hn, hs.tm, hw]
      have ha' : lall (fun e => orB (notB (bindsAny e)) (Nat.blt e.on j)) o.after.toList = true := ha
      rw [ha']
      rfl
    rw [hstep]
    have fin : ∀ (s1 : DS) {j1 tm1 S1 pend1 acts1 reads1 news1}, chkGo M W l j1 acts1 reads1 news1 = true → Same s1 j1 tm1 S1 pend1 acts1 reads1 news1 → seqK C R rnd sz base ops dfs l j1 tm1 S1 pend1 = .mk x tm' d' S' →
        ∃ s2, some s1 = some s2 ∧ ∃ s', lfoldO (stepD C R rnd sz ops base M W) l s2 = some s' ∧ x = .normal ∧ s'.tm = tm' ∧ d' = dfs ∧ lfold (fun (S : AW) (p : Pd) => S.put p.id p.o) s'.pend s'.S = S' := fun s1 _ _ _ _ _ _ _ hc1 hs1 h1 => ⟨s1, rfl, seq_ok' l hc1 hs1 h1⟩
    cases w with
    | false =>
      rw [iteB_f] at h ⊢
      obtain ⟨tm1, hp, h⟩ := orNo_some h (by simp)
      rw [hs.tm, hp, ob_some_eq]
      have hv : ∀ {acts' reads' news'}, (∀ i ∈ acts, i ∈ acts') → (∀ i ∈ reads, i ∈ reads') → (∀ i ∈ news, i ∈ news') → Same (s.val tm1) (j + 1) tm1 S pend acts' reads' news' := fun h1 h2 h3 =>
        ⟨by simp [DS.val, hs.j], rfl, hs.S, hs.pend, fun a ha => h1 _ (hs.acts a ha), fun a ha => h2 _ (hs.reads a ha), fun a ha => h3 _ (hs.news a ha)⟩
      have id' : ∀ {l : List Nat}, ∀ i ∈ l, i ∈ l := fun i h => h
      have cons' : ∀ {l : List Nat}, ∀ i ∈ l, i ∈ j :: l := fun i h => List.mem_cons_of_mem _ h
      split at hc
      · exact fin _ hc (hv id' id' id') h
      · exact fin _ (Bool.and_eq_true _ _ ▸ hc).2 (hv id' cons' id') h
      · exact fin _ hc (hv id' id' cons') h
      · simp only [Bool.and_eq_true] at hc
        exact fin _ hc.2 (hv cons' id' id') h
      · cases hc
    | true =>
      rw [iteB_t] at h ⊢
      have id' : ∀ {l : List Nat}, ∀ i ∈ l, i ∈ l := fun i h => h
      have cons' : ∀ {l : List Nat}, ∀ i ∈ l, i ∈ j :: l := fun i h => List.mem_cons_of_mem _ h
      -- values
      have pVal : ∀ {f : VH} {acts' reads' news'}, chkGo M W l (j + 1) acts' reads' news' = true → (∀ i ∈ acts, i ∈ acts') → (∀ i ∈ reads, i ∈ reads') → (∀ i ∈ news, i ∈ news') →
          (orNo (f C tm S) fun v => orNo (putT sz o.dst v tm) fun tm' => seqK C R rnd sz base ops dfs l (j + 1) tm' S pend) = .mk x tm' d' S' →
          ∃ s1, (ob (f C s.tm s.S) fun v => ob (putT sz o.dst v s.tm) fun tm => some (s.val tm)) = some s1 ∧ ∃ s', lfoldO (stepD C R rnd sz ops base M W) l s1 = some s' ∧ x = .normal ∧ s'.tm = tm' ∧ d' = dfs ∧ lfold (fun (S : AW) (p : Pd) => S.put p.id p.o) s'.pend s'.S = S' := by
        intro f acts' reads' news' hc h1 h2 h3 h
        obtain ⟨v, hv, h⟩ := orNo_some h (by simp)
        obtain ⟨tm1, hp, h⟩ := orNo_some h (by simp)
        rw [hs.tm, hs.S, hv, ob_some_eq, hp, ob_some_eq]
        exact fin _ hc ⟨by simp [DS.val, hs.j], rfl, hs.S, hs.pend, fun a ha => h1 _ (hs.acts a ha), fun a ha => h2 _ (hs.reads a ha), fun a ha => h3 _ (hs.news a ha)⟩ h
      have pRdr : ∀ {f : VH}, befAll M acts j = true → chkGo M W l (j + 1) acts (j :: reads) news = true →
          (orNo (f C tm S) fun v => orNo (putT sz o.dst v tm) fun tm' => seqK C R rnd sz base ops dfs l (j + 1) tm' S pend) = .mk x tm' d' S' →
          ∃ s1, dRdr f C R rnd sz base M o.dst s = some s1 ∧ ∃ s', lfoldO (stepD C R rnd sz ops base M W) l s1 = some s' ∧ x = .normal ∧ s'.tm = tm' ∧ d' = dfs ∧ lfold (fun (S : AW) (p : Pd) => S.put p.id p.o) s'.pend s'.S = S' := by
        intro f hb hc h
        rw [befAll_iff] at hb
        obtain ⟨v, hv, h⟩ := orNo_some h (by simp)
        obtain ⟨tm1, hp, h⟩ := orNo_some h (by simp)
        unfold dRdr
        rw [hs.tm, hs.S, hv, ob_some_eq, hp, ob_some_eq]
        have hall : lall (fun (p : Ac) => orB (bef M p.j s.j) (optSame (f C tm p.S) v)) s.acts = true := by
          rw [lall_eq, List.all_eq_true]
          intro a ha
          rw [hs.j, hb _ (hs.acts a ha)]; rfl
        rw [hall, tst_t]
        exact fin _ hc ⟨by simp [hs.j], rfl, rfl, hs.pend, hs.acts, fun a ha => by
          rcases List.mem_cons.1 ha with rfl | ha
          · simp [hs.j]
          · exact cons' _ (hs.reads a ha), hs.news⟩ h
      have pNew : ∀ {g : NH}, chkGo M W l (j + 1) acts reads (j :: news) = true →
          (orNo (g C tm (base + j)) fun p => orNo (putT sz o.dst p.1 tm) fun tm' => seqK C R rnd sz base ops dfs l (j + 1) tm' S ((base + j, p.2) :: pend)) = .mk x tm' d' S' →
          ∃ s1, dNew g C R rnd sz base M o.dst s = some s1 ∧ ∃ s', lfoldO (stepD C R rnd sz ops base M W) l s1 = some s' ∧ x = .normal ∧ s'.tm = tm' ∧ d' = dfs ∧ lfold (fun (S : AW) (p : Pd) => S.put p.id p.o) s'.pend s'.S = S' := by
        intro g hc h
        obtain ⟨p, hv, h⟩ := orNo_some h (by simp)
        obtain ⟨tm1, hp, h⟩ := orNo_some h (by simp)
        unfold dNew
        rw [hs.tm, hs.j]
        show ∃ s1, ob (g C tm (base + j)) _ = some s1 ∧ ∃ s', lfoldO (stepD C R rnd sz ops base M W) l s1 = some s' ∧ _
        rw [hv, ob_some_eq, hp, ob_some_eq]
        exact fin _ hc ⟨rfl, rfl, hs.S, by simp [hs.pend], hs.acts, hs.reads, fun a ha => by
          rcases List.mem_cons.1 ha with rfl | ha
          · simp
          · exact cons' _ (hs.news a ha)⟩ h
      have pAct : ∀ {f : AH}, befAll M acts j = true → befAll M reads j = true → befAll M news j = true → chkGo M W l (j + 1) (j :: acts) reads news = true →
          (orNo (f C R rnd tm (layAll pend S)) fun p => orNo (putT sz o.dst p.1 tm) fun tm' => seqK C R rnd sz base ops dfs l (j + 1) tm' p.2 []) = .mk x tm' d' S' →
          ∃ s1, dAct f C R rnd sz base M o.dst s = some s1 ∧ ∃ s', lfoldO (stepD C R rnd sz ops base M W) l s1 = some s' ∧ x = .normal ∧ s'.tm = tm' ∧ d' = dfs ∧ lfold (fun (S : AW) (p : Pd) => S.put p.id p.o) s'.pend s'.S = S' := by
        intro f hb1 hb2 hb3 hc h
        rw [befAll_iff] at hb1 hb2 hb3
        obtain ⟨p, hv, h⟩ := orNo_some h (by simp)
        obtain ⟨tm1, hp, h⟩ := orNo_some h (by simp)
        have hlay : layPend M s.j s.pend s.S = layAll pend S := by
          rw [lay_all (fun p hp => by rw [hs.j]; exact hb3 _ (hs.news p hp)), hs.pend, hs.S]
        have hall1 : lall (fun (p : Ac) => bef M p.j s.j) s.acts = true := by
          rw [lall_eq, List.all_eq_true]
          intro a ha
          rw [hs.j]; exact hb1 _ (hs.acts a ha)
        have hall2 : ∀ (v : AW), lall (fun (r : Rd) => orB (bef M r.j s.j) (optSame (r.f C r.tm v) r.v)) s.reads = true := by
          intro v
          rw [lall_eq, List.all_eq_true]
          intro a ha
          rw [hs.j, hb2 _ (hs.reads a ha)]; rfl
        have hpend : lfilter (fun q => notB (bef M q.j s.j)) s.pend = [] := by
          rw [lfilter_eq, List.filter_eq_nil_iff]
          intro a ha
          rw [hs.j, hb3 _ (hs.news a ha)]; simp [notB]
        unfold dAct
        rw [hall1, tst_t]
        unfold dAct2
        rw [hlay, hs.tm, hv, ob_some_eq, hp, ob_some_eq, hall2, tst_t, hpend]
        exact fin _ hc ⟨by simp [hs.j], rfl, rfl, rfl, fun a ha => by
          rcases List.mem_cons.1 ha with rfl | ha
          · simp [hs.j]
          · exact cons' _ (hs.acts a ha), hs.reads, fun a ha => by cases ha⟩ h
      cases ho : opH o.op with
      | val f => rw [ho] at h hc; exact pVal hc id' id' id' h
      | rdr f => rw [ho] at h hc; simp only [kindOf, Bool.and_eq_true] at hc; exact pRdr hc.1 hc.2 h
      | new g => rw [ho] at h hc; exact pNew hc h
      | act f => rw [ho] at h hc; simp only [kindOf, Bool.and_eq_true] at hc; exact pAct hc.1.1.1 hc.1.1.2 hc.1.2 hc.2 h
      | call f c => rw [ho] at h hc; simp only [kindOf, Bool.and_eq_true] at hc; exact pAct (f := aCall f c) hc.1.1.1 hc.1.1.2 hc.1.2 hc.2 h
      | vn f g =>
        rw [ho] at h hc
        show ∃ s1, dVn f g C R rnd sz base M o.dst s = some s1 ∧ ∃ s', lfoldO (stepD C R rnd sz ops base M W) l s1 = some s' ∧ _
        unfold dVn
        change oel _ (f C tm S) _ = _ at h
        cases hv : f C tm S with
        | none =>
          rw [hv, oel_none] at h
          rw [hs.tm, hs.S, hv, oel_none]
          exact pNew hc h
        | some v =>
          rw [hv, oel_some_eq] at h
          rw [hs.tm, hs.S, hv, oel_some_eq]
          have := pVal (f := f) hc id' id' cons' (by rw [hv]; exact h)
          rw [hs.tm, hs.S, hv, ob_some_eq] at this
          exact this
      | va f g => rw [ho] at h hc; simp only [kindOf, Bool.and_eq_true] at hc; exact pRdr hc.1 hc.2 h
      | dfr c => rw [ho] at hc; cases hc
      | rcv => rw [ho] at hc; cases hc
      | no => rw [ho] at hc; cases hc
theorem regD_seq {ops : List Oper} {tm tm' : T AV} {S S' : AW} {x : Exit} {d' : List ADef} (hc : chkDraw ops = true) (h : seqK C R rnd sz S.next ops dfs ops 0 tm { heap := S.heap, next := S.next + ops.length } [] = .mk x tm' d' S') : regD C R rnd sz ops tm dfs S = .mk x tm' d' S' := by
  unfold chkDraw at hc
  unfold regD
  cases hw : writers ops with
  | none => rw [hw] at hc; cases hc
  | some W =>
    rw [hw] at hc
    simp only [andB_eq, Bool.and_eq_true] at hc
    have hl : W.2 = ops.length := by rw [← llen_eq]; exact eq_of_beq hc.1
    obtain ⟨s', h1, rfl, rfl, rfl, h5⟩ := seq_ok' ops hc.2 (s := { tm := tm, S := { heap := S.heap, next := Nat.add S.next W.2 }, j := 0, pend := [], acts := [], reads := [] }) ⟨rfl, rfl, by rw [hl]; rfl, rfl, fun a h => (by cases h), fun a h => (by cases h), fun a h => (by cases h)⟩ h
    rw [orNo_some_eq, h1, orNo_some_eq, h5]
theorem codeK_draw {N id : Nat} {ops : Array Oper} {tm : T AV} {S : AW} (hc : chkDraw ops.toList = true) {Q : AQ} (h : RsOk Q (seqK C R rnd sz S.next ops.toList dfs ops.toList 0 tm { heap := S.heap, next := S.next + ops.toList.length } [])) : RsOk Q (codeK (.region id ops true) C R N rnd sz tm dfs S) := by
  cases hr : seqK C R rnd sz S.next ops.toList dfs ops.toList 0 tm { heap := S.heap, next := S.next + ops.toList.length } [] with
  | no => rw [hr] at h; exact h.elim
  | mk x t d s =>
    rw [hr] at h
    show RsOk Q (regD C R rnd sz ops.toList tm dfs S)
    rw [regD_seq hc hr]
    exact h
end
end Go.Ev
namespace Go.Ev
section
variable {C : Cx} {R : Iv} {rnd : Option Nat} {sz base : Nat} {ops : List Oper} {dfs : List ADef} {d : Option Tmp} {j : Nat} {tm : T AV} {S : AW} {pend : List (Nat × AObj)} {k : KD}
theorem seqK_nil : seqK C R rnd sz base ops dfs [] j tm S pend = .mk .normal tm dfs (layAll pend S) := rfl
theorem seqK_cons (o : Oper) (l : List Oper) : seqK C R rnd sz base ops dfs (o :: l) j tm S pend = orNo (wantedV ops tm o) fun w => iteB w (seqH C R rnd sz base o.dst j tm S pend (seqK C R rnd sz base ops dfs l) (opH o.op)) (orNo (putT sz o.dst undefV tm) fun tm' => seqK C R rnd sz base ops dfs l (j + 1) tm' S pend) := rfl
theorem seqH_val (f : VH) : seqH C R rnd sz base d j tm S pend k (.val f) = orNo (f C tm S) fun v => orNo (putT sz d v tm) fun tm' => k (j + 1) tm' S pend := rfl
theorem seqH_rdr (f : VH) : seqH C R rnd sz base d j tm S pend k (.rdr f) = orNo (f C tm S) fun v => orNo (putT sz d v tm) fun tm' => k (j + 1) tm' S pend := rfl
theorem seqH_new (f : NH) : seqH C R rnd sz base d j tm S pend k (.new f) = orNo (f C tm (base + j)) fun p => orNo (putT sz d p.1 tm) fun tm' => k (j + 1) tm' S ((base + j, p.2) :: pend) := rfl
theorem seqH_act (f : AH) : seqH C R rnd sz base d j tm S pend k (.act f) = orNo (f C R rnd tm (layAll pend S)) fun p => orNo (putT sz d p.1 tm) fun tm' => k (j + 1) tm' p.2 [] := rfl
theorem seqH_call (f : Operand) (c : Call) : seqH C R rnd sz base d j tm S pend k (.call f c) = orNo (aCall f c C R rnd tm (layAll pend S)) fun p => orNo (putT sz d p.1 tm) fun tm' => k (j + 1) tm' p.2 [] := rfl
theorem seqH_vn (f : VH) (g : NH) : seqH C R rnd sz base d j tm S pend k (.vn f g) = oel (orNo (g C tm (base + j)) fun p => orNo (putT sz d p.1 tm) fun tm' => k (j + 1) tm' S ((base + j, p.2) :: pend)) (f C tm S) fun v => orNo (putT sz d v tm) fun tm' => k (j + 1) tm' S pend := rfl
theorem seqH_va (f : VH) (g : AH) : seqH C R rnd sz base d j tm S pend k (.va f g) = orNo (f C tm S) fun v => orNo (putT sz d v tm) fun tm' => k (j + 1) tm' S pend := rfl
theorem layAll_nil : layAll [] S = S := rfl
theorem layAll_cons (p : Nat × AObj) (l : List (Nat × AObj)) : layAll (p :: l) S = layAll l (S.put p.1 p.2) := rfl
end
theorem laidLen (l : List Oper) (n : Nat) (h : l.length = n) : l.length = n := h
end Go.Ev
namespace Go.Ev
section
variable {tt : T Ty} {t u : TypeId} {n z b : Nat} {zero : Option AV} {S : AW} {i off : Nat} {C : Cx}
theorem ldS {d : Ty} (h : tt.get t = some d) (ha : d.agg = false) : loadV tt S t (.ptr i off) = ob (rcells S i) fun rs => rget rs off := by
  unfold loadV
  rw [h]
  show ob (rcells S i) (fun rs => iteB d.agg _ _) = _
  rw [ha]; rfl
theorem ldA {d : Ty} (h : tt.get t = some d) (ha : d.agg = true) (hz : d.size = z) : loadV tt S t (.ptr i off) = ob (rcells S i) fun rs => ob (rext rs off z) fun r => some (.agg r) := by
  unfold loadV
  rw [h]
  show ob (rcells S i) (fun rs => iteB d.agg (ob (rext rs off d.size) fun r => some (AV.agg r)) (rget rs off)) = _
  rw [ha, hz]; rfl
theorem stT {d : Ty} (h : tt.get t = some d) (hz : d.size = z) (v : AV) : storeV tt S t (.ptr i off) v = ob (cellsOfV v) fun cs => tst (Nat.beq (rlen cs) z) (storeCellsV S i off cs) := by
  unfold storeV
  rw [h]
  show ob (cellsOfV v) (fun cs => tst (Nat.beq (rlen cs) d.size) _) = _
  rw [hz]
theorem faT {d e : Ty} {k o : Nat} {fs : List Field} {f : Field} (h : tt.get t = some d) (hd : dStructT d.und = some fs) (hf : lget fs k = some f) (he : tt.get f.type = some e) (hs : notB (Nat.beq e.size 0) = true) (ho : f.offset = o) : fieldAddrV tt t (.ptr i off) k = some (.ptr i (Nat.add off o)) := by
  unfold fieldAddrV tsize
  rw [h]
  show ob (dStructT d.und) (fun fs => ob (lget fs k) fun f => ob (ob (tt.get f.type) fun y => some y.size) fun s => tst (notB (Nat.beq s 0)) (some (AV.ptr i (Nat.add off f.offset)))) = _
  rw [hd, ob_some_eq, hf, ob_some_eq, he, ob_some_eq, ob_some_eq, hs, ho]; rfl
theorem iaS {d e : Ty} {len m : Nat} {c : Cap} {k : IntKind} (h : tt.get t = some d) (hd : d.und = .slice u) (he : tt.get u = some e) (hz : e.size = z) : indexAddrV tt t (.sl i off len c) (.int k (.ofNat m)) = tst (Nat.blt m len) (some (.ptr i (Nat.add off (Nat.mul m z)))) := by
  unfold indexAddrV elemAt tsize
  rw [h]
  show ob (dSliceT d.und) (fun e => ob (ob (tt.get e) fun y => some y.size) fun size => tst (Nat.blt m len) (some (AV.ptr i (Nat.add off (Nat.mul m size))))) = _
  rw [hd]
  show ob (ob (tt.get u) fun y => some y.size) _ = _
  rw [he, ob_some_eq, ob_some_eq, hz]
theorem iaA {d e : Ty} {m : Nat} {k : IntKind} (h : tt.get t = some d) (hd : d.und = .array n u) (he : tt.get u = some e) (hz : e.size = z) : indexAddrV tt t (.ptr i off) (.int k (.ofNat m)) = tst (Nat.blt m n) (some (.ptr i (Nat.add off (Nat.mul m z)))) := by
  unfold indexAddrV elemAt tsize
  rw [h]
  show ob (dArrT d.und) (fun a => ob (ob (tt.get a.2) fun y => some y.size) fun size => tst (Nat.blt m a.1) (some (AV.ptr i (Nat.add off (Nat.mul m size))))) = _
  rw [hd]
  show ob (ob (tt.get u) fun y => some y.size) (fun size => tst (Nat.blt m n) (some (AV.ptr i (Nat.add off (Nat.mul m size))))) = _
  rw [he, ob_some_eq, ob_some_eq, hz]
theorem lenS {d : Ty} {len : Nat} {c : Cap} (h : tt.get t = some d) (hd : d.und = .slice u) : lenV tt S t (.sl i off len c) = some len := by
  unfold lenV
  rw [h, ob_some_eq, hd]; rfl
theorem eqP {d : Ty} {cx : Bool} (h : C.tt.get t = some d) (hd : d.und = .pointer u) : binV C .eql t cx (.ptr i off) .nptr = some (.bool false) := by
  show ob (eqV C t cx (.ptr i off) .nptr) bB = _
  unfold eqV
  rw [h]
  simp only [ob_some_eq, hd]
  rfl
theorem neP {d : Ty} {cx : Bool} (h : C.tt.get t = some d) (hd : d.und = .pointer u) : binV C .neq t cx (.ptr i off) .nptr = some (.bool true) := by
  show ob (eqV C t cx (.ptr i off) .nptr) (fun b => bB (notB b)) = _
  unfold eqV
  rw [h]
  simp only [ob_some_eq, hd]
  rfl
end
end Go.Ev
namespace Go.Ev
/-- What of a type the facts need. -/
inductive Sh where
  | int (k : IntKind)
  | ptr (t : TypeId)
  | slice (t : TypeId)
  | arr (n : Nat) (t : TypeId)
  | map (k e : TypeId)
  | struct (l : List (Nat × Nat))
  | other
noncomputable def shOf : TypeDesc → Sh
  | .int k => .int k
  | .pointer t => .ptr t
  | .slice t => .slice t
  | .array n t => .arr n t
  | .map k e => .map k e
  | .struct fs => .struct (fs.toList.map fun f => (f.type, f.offset))
  | _ => .other
noncomputable def shT (tt : T Ty) (t : TypeId) : Option (Sh × Nat × Bool) := (tt.get t).map fun d => (shOf d.und, d.size, d.agg)
section
variable {tt : T Ty} {t u : TypeId} {n z y : Nat} {S : AW} {i off : Nat} {C : Cx} {a b : Bool}
theorem shT_some {s : Sh} (h : shT tt t = some (s, z, a)) : ∃ d, tt.get t = some d ∧ shOf d.und = s ∧ d.size = z ∧ d.agg = a := by
  unfold shT at h
  cases hd : tt.get t with
  | none => rw [hd] at h; cases h
  | some d => rw [hd] at h; cases h; exact ⟨d, rfl, rfl, rfl, rfl⟩
theorem sh_slice {d : TypeDesc} (h : shOf d = .slice u) : d = .slice u := by cases d <;> simp [shOf] at h; rw [h]
theorem sh_arr {d : TypeDesc} (h : shOf d = .arr n u) : d = .array n u := by cases d <;> simp [shOf] at h; rw [h.1, h.2]
theorem sh_ptr {d : TypeDesc} (h : shOf d = .ptr u) : d = .pointer u := by cases d <;> simp [shOf] at h; rw [h]
theorem sh_struct {d : TypeDesc} {l : List (Nat × Nat)} (h : shOf d = .struct l) : ∃ fs, dStructT d = some fs ∧ fs.map (fun f => (f.type, f.offset)) = l := by
  cases d <;> simp [shOf] at h
  exact ⟨_, rfl, h⟩
theorem fLd {s : Sh} (h : shT tt t = some (s, z, false)) : loadV tt S t (.ptr i off) = ob (rcells S i) fun rs => rget rs off := by
  obtain ⟨d, h1, _, _, h4⟩ := shT_some h; exact ldS h1 h4
theorem fLdA {s : Sh} (h : shT tt t = some (s, z, true)) : loadV tt S t (.ptr i off) = ob (rcells S i) fun rs => ob (rext rs off z) fun r => some (.agg r) := by
  obtain ⟨d, h1, _, h3, h4⟩ := shT_some h; exact ldA h1 h4 h3
theorem fSt {s : Sh} (h : shT tt t = some (s, z, a)) (v : AV) : storeV tt S t (.ptr i off) v = ob (cellsOfV v) fun cs => tst (Nat.beq (rlen cs) z) (storeCellsV S i off cs) := by
  obtain ⟨d, h1, _, h3, _⟩ := shT_some h; exact stT h1 h3 v
theorem fFa {l : List (Nat × Nat)} {k o : Nat} {s : Sh} (h : shT tt t = some (.struct l, z, a)) (hk : l[k]? = some (u, o)) (hu : shT tt u = some (s, y, b)) (hy : notB (Nat.beq y 0) = true) : fieldAddrV tt t (.ptr i off) k = some (.ptr i (Nat.add off o)) := by
  obtain ⟨d, h1, h2, _, _⟩ := shT_some h
  obtain ⟨e, k1, _, k3, _⟩ := shT_some hu
  obtain ⟨fs, hf, hl⟩ := sh_struct h2
  rw [← hl, List.getElem?_map] at hk
  cases hg : fs[k]? with
  | none => rw [hg] at hk; cases hk
  | some f =>
    rw [hg] at hk
    simp only [Option.map_some, Option.some.injEq, Prod.mk.injEq] at hk
    exact faT h1 hf (by rw [lget_eq]; exact hg) (by rw [hk.1]; exact k1) (by rw [k3]; exact hy) hk.2
theorem fIa {len m : Nat} {c : Cap} {k : IntKind} {s : Sh} (h : shT tt t = some (.slice u, z, a)) (hu : shT tt u = some (s, y, b)) : indexAddrV tt t (.sl i off len c) (.int k (.ofNat m)) = tst (Nat.blt m len) (some (.ptr i (Nat.add off (Nat.mul m y)))) := by
  obtain ⟨d, h1, h2, _, _⟩ := shT_some h
  obtain ⟨e, k1, _, k3, _⟩ := shT_some hu
  exact iaS h1 (sh_slice h2) k1 k3
theorem fIaA {m : Nat} {k : IntKind} {s : Sh} (h : shT tt t = some (.arr n u, z, a)) (hu : shT tt u = some (s, y, b)) : indexAddrV tt t (.ptr i off) (.int k (.ofNat m)) = tst (Nat.blt m n) (some (.ptr i (Nat.add off (Nat.mul m y)))) := by
  obtain ⟨d, h1, h2, _, _⟩ := shT_some h
  obtain ⟨e, k1, _, k3, _⟩ := shT_some hu
  exact iaA h1 (sh_arr h2) k1 k3
theorem fLen {len : Nat} {c : Cap} (h : shT tt t = some (.slice u, z, a)) : lenV tt S t (.sl i off len c) = some len := by
  obtain ⟨d, h1, h2, _, _⟩ := shT_some h
  exact lenS h1 (sh_slice h2)
theorem fEqP {cx : Bool} (h : shT C.tt t = some (.ptr u, z, a)) : binV C .eql t cx (.ptr i off) .nptr = some (.bool false) := by
  obtain ⟨d, h1, h2, _, _⟩ := shT_some h
  exact eqP h1 (sh_ptr h2)
theorem fNeP {cx : Bool} (h : shT C.tt t = some (.ptr u, z, a)) : binV C .neq t cx (.ptr i off) .nptr = some (.bool true) := by
  obtain ⟨d, h1, h2, _, _⟩ := shT_some h
  exact neP h1 (sh_ptr h2)
end
end Go.Ev
namespace Go.Ev
/-- A value that names nothing new: by its look, or since it stands in a block of S. -/
def Kn (S : AW) (a : AV) : Prop := idsLt S.next a ∨ ∃ j o r, S.heap.get j = some o ∧ rowOf o = some r ∧ a ∈ rflat r
def oKn (S : AW) : AObj → Prop
  | .cells _ rs _ => ∀ a ∈ rflat rs, Kn S a
  | o => oIdsLt S.next o
theorem rowOf_row {E : Env} {w : World} {l : Loc} {o : AObj} {r : RL} (h : OR E w l o) (hr : rowOf o = some r) : ∃ vs, CR E (rflat r) vs := by
  cases o <;> simp [rowOf] at hr
  · subst hr; obtain ⟨_, b, _, _, _, _, h3, _⟩ := h; exact ⟨b, h3⟩
  · subst hr; obtain ⟨_, b, _, _, _, _, _, h3⟩ := h; exact ⟨b, h3⟩
theorem Kn.back {S : AW} {E E' : Env} {w : World} (hS : Sim E S w) (h : Only S.next E' E) (lt : ∀ i l, E.loc i = some l → i < S.next) {a : AV} {v : Value} (k : Kn S a) (x : VR E' a v) : VR E a v := by
  rcases k with k | ⟨j, o, r, hj, hr, hm⟩
  · exact VR.back h a v k x
  · obtain ⟨l, _, ho⟩ := hS.obj j o hj
    obtain ⟨vs, hc⟩ := rowOf_row ho hr
    obtain ⟨i, hi, rfl⟩ := List.getElem_of_mem hm
    obtain ⟨u, _, hu, _⟩ := hc.get (i := i) (x := (rflat r)[i]) (by simp [hi])
    exact VR.again h lt _ u v hu x
theorem oKn.back {S : AW} {E E' : Env} {w w' : World} (hS : Sim E S w) (h : Only S.next E' E) (lt : ∀ i l, E.loc i = some l → i < S.next) {l : Loc} {o : AObj} (k : oKn S o) (x : OR E' w' l o) : OR E w' l o := by
  cases o with
  | cells e rs op =>
    obtain ⟨a, b, c, fr, h1, h2, h3, h4⟩ := x
    exact ⟨a, b, c, fr, h1, h2, ⟨h3.1, fun i a v ha hv => ⟨Kn.back hS h lt (k a (List.mem_of_getElem? ha)) (h3.2 i a v ha hv).1, (h3.2 i a v ha hv).2⟩⟩, h4⟩
  | ro rs => exact OR.back h k x
  | map es c => exact OR.back h k x
  | siter s p => exact x
  | miter m a seen st => exact OR.back h k x
  | loop L => exact k.elim
  | dfr shut => exact x
  | dead => trivial
/-- One object, in other runs. -/
def oEq (o' o : AObj) : Prop := o' = o ∨ ∃ e rs rs' op, o' = .cells e rs' op ∧ o = .cells e rs op ∧ rflat rs' = rflat rs
theorem oEq.refl (o : AObj) : oEq o o := .inl rfl
theorem oEq.OR {o' o : AObj} (h : oEq o' o) {E : Env} {w : World} {l : Loc} (x : OR E w l o') : OR E w l o := by
  rcases h with rfl | ⟨e, rs, rs', op, rfl, rfl, hr⟩
  · exact x
  · obtain ⟨a, b, c, fr, h1, h2, h3, h4⟩ := x
    exact ⟨a, b, c, fr, h1, h2, hr ▸ h3, h4⟩
theorem oEq.live {o' o : AObj} (h : oEq o' o) (x : live o) : live o' := by
  rcases h with rfl | ⟨e, rs, rs', op, rfl, rfl, hr⟩
  · exact x
  · trivial
theorem oEq.wr {o' o : AObj} (h : oEq o' o) (x : wr o) : wr o' := by
  rcases h with rfl | ⟨e, rs, rs', op, rfl, rfl, hr⟩
  · exact x
  · trivial
theorem Ret.forget {C : Cx} {f : FuncId} {args : List AV} {S : AW} {Q Q' : AV → AW → Prop} (h : Ret C f args S Q)
    (k : ∀ v s, Q v s → ∃ s', Q' v s' ∧ s'.next = S.next ∧ Kn S v ∧ ∀ i o, s'.heap.get i = some o → i < S.next ∧ (∃ o', s.heap.get i = some o' ∧ oEq o' o) ∧ (S.heap.get i = some o ∨ oKn S o)) : Ret C f args S Q' := by
  refine ⟨fun {E w vs} hS ha => ?_⟩
  obtain ⟨h1, h2⟩ := h.go hS ha
  refine ⟨h1, fun n => CallsIn.mono (h2 n) ?_⟩
  rintro e w' ⟨v, s, x, E', hq, rfl, hv, hs, hG⟩
  obtain ⟨s', hq', hn, hidv, hk⟩ := k v s hq
  have lt : ∀ i l, E.loc i = some l → i < S.next := fun i l hl => by
    rcases Nat.lt_or_ge i S.next with h | h
    · exact h
    · rw [hS.new i h] at hl; cases hl
  have honly : Only S.next E' E := by
    refine ⟨fun i l hi hl => ?_, hG.le.om.symm⟩
    cases he : E.loc i with
    | none => rw [hG.fresh i hi he] at hl; cases hl
    | some l0 => rw [hG.le.loc i l0 he] at hl; exact hl
  have hobj : ∀ i o, s'.heap.get i = some o → ∃ l, E.loc i = some l ∧ OR E w' l o := by
    intro i o hi
    obtain ⟨hlt, ⟨o', hsi, he⟩, hor⟩ := hk i o hi
    obtain ⟨l, hl, ho⟩ := hs.obj i o' hsi
    have ho := he.OR ho
    have hl' := honly.1 i l hlt hl
    refine ⟨l, hl', ?_⟩
    rcases hor with h0 | h0
    · obtain ⟨l0, hl0, ho0⟩ := hS.obj i o h0
      exact OR.again honly lt ho0 ho
    · exact oKn.back hS honly lt h0 ho
  refine ⟨v, s', x, E, hq', rfl, Kn.back hS honly lt hidv hv, ⟨hobj, fun i j o o' l l' hi hj ho ho' hl hl' hb => ?_, fun i hi => hS.new i (by rw [← hn]; exact hi), hS.glob⟩, ?_⟩
  · obtain ⟨_, ⟨p, hp, he⟩, _⟩ := hk i o hi
    obtain ⟨_, ⟨p', hp', he'⟩, _⟩ := hk j o' hj
    exact hs.inj i j p p' l l' hp hp' (he.live ho) (he'.live ho') (hG.le.loc i l hl) (hG.le.loc j l' hl') hb
  · exact ⟨Le.refl E, hG.os, hG.tape, hG.output, hG.size, hG.keep, fun i o l hi ho hl => by
      obtain ⟨_, ⟨p, hp, he⟩, _⟩ := hk i o hi
      rcases hG.own i p l hp (he.live ho) (hG.le.loc i l hl) with h | ⟨j, o', l', a, b, c, d, e⟩
      · exact .inl h
      · exact .inr ⟨j, o', l', a, b, c, d, fun x => e (he.wr x)⟩, by rw [hn]; exact Nat.le_refl _, fun i _ h => h⟩
end Go.Ev
namespace Go.Ev
theorem sh_map {d : TypeDesc} {k e : TypeId} (h : shOf d = .map k e) : d = .map k e := by cases d <;> simp [shOf] at h; rw [h.1, h.2]
theorem fRange {tt : T Ty} {t k e z : Nat} {a : Bool} {S : AW} {i clock : Nat} {es : List Ent} (h : shT tt t = some (.map k e, z, a)) (hm : S.heap.get i = some (.map es clock)) : rangeV tt S t (.map i) = some (.ptr S.next 0, { heap := S.heap.set S.next (.miter (some i) clock [] clock), next := S.next + 1 }) := by
  obtain ⟨d, h1, h2, _, _⟩ := shT_some h
  unfold rangeV
  rw [h1, ob_some_eq, sh_map h2]
  show ob (mapOf S (.map i)) (fun q => newIt S (.miter (some i) q.clock [] q.clock)) = _
  unfold mapOf
  show ob (ob (S.heap.get i) _) _ = _
  rw [hm]; rfl
theorem fClear {tt : T Ty} {t k e z : Nat} {a : Bool} {S : AW} {i clock : Nat} {es : List Ent} (h : shT tt t = some (.map k e, z, a)) (hm : S.heap.get i = some (.map es clock)) : clearV tt S [t] [.map i] = some (.tup [], { heap := S.heap.set i (.map [] clock), next := S.next }) := by
  obtain ⟨d, h1, h2, _, _⟩ := shT_some h
  unfold clearV
  rw [lget_zero, ob_some_eq, h1, ob_some_eq]
  show ob (S.heap.get i) _ = _
  rw [hm]; rfl
theorem entryV_at {S : AW} {it m a st clock b : Nat} {r : List Nat} {es : List Ent} {e : Ent} (h1 : S.heap.get it = some (.miter (some m) a (b :: r) st)) (h2 : S.heap.get m = some (.map es clock)) (h3 : clock = st) (hf : lfind (fun x => Nat.beq x.born b) es = some e) : entryV S (.ptr it 0) = some (.tup [e.key, e.val]) := by
  unfold entryV
  show ob (S.heap.get it) _ = _
  rw [h1]
  show ob (S.heap.get m) _ = _
  rw [h2]
  show tst (Nat.beq clock st) (ob (lfind (fun x => Nat.beq x.born b) es) fun e => some (AV.tup [e.key, e.val])) = _
  rw [h3, beq_self, tst_t, hf]; rfl
end Go.Ev
namespace Go.Ev
/-- A value that names nothing from n on. -/
def KnN (n : Nat) (S : AW) (a : AV) : Prop := idsLt n a ∨ ∃ j o r, S.heap.get j = some o ∧ rowOf o = some r ∧ a ∈ rflat r
def oKnN (n : Nat) (S : AW) : AObj → Prop
  | .cells _ rs _ => ∀ a ∈ rflat rs, KnN n S a
  | o => oIdsLt n o
/-- The blocks from n on are forgotten. -/
theorem Ret.trim {C : Cx} {f : FuncId} {args : List AV} {S : AW} {Q Q' : AV → AW → Prop} (n : Nat) (hn : S.next ≤ n) (h : Ret C f args S Q)
    (k : ∀ v s, Q v s → ∃ s', Q' v s' ∧ s'.next = n ∧ KnN n S v ∧ ∀ i o, s'.heap.get i = some o → i < n ∧ (∃ o', s.heap.get i = some o' ∧ oEq o' o) ∧ (S.heap.get i = some o ∨ oKnN n S o)) : Ret C f args S Q' := by
  refine ⟨fun {E w vs} hS ha => ?_⟩
  obtain ⟨h1, h2⟩ := h.go hS ha
  refine ⟨h1, fun n' => CallsIn.mono (h2 n') ?_⟩
  rintro e w' ⟨v, s, x, E', hq, rfl, hv, hs, hG⟩
  obtain ⟨s', hq', hsn, hidv, hk⟩ := k v s hq
  have lt : ∀ i l, E.loc i = some l → i < S.next := fun i l hl => by
    rcases Nat.lt_or_ge i S.next with h | h
    · exact h
    · rw [hS.new i h] at hl; cases hl
  have h1000 : 999 < S.next := lt 999 _ (hS.glob 999 (by omega))
  have honly : Only S.next E' E := by
    refine ⟨fun i l hi hl => ?_, hG.le.om.symm⟩
    cases he : E.loc i with
    | none => rw [hG.fresh i hi he] at hl; cases hl
    | some l0 => rw [hG.le.loc i l0 he] at hl; exact hl
  let E2 : Env := { loc := fun i => if i < n then E'.loc i else none, om := E'.om }
  have e2 : ∀ i l, E2.loc i = some l → i < n ∧ E'.loc i = some l := fun i l h => by
    by_cases hi : i < n
    · exact ⟨hi, by simpa [E2, hi] using h⟩
    · simp [E2, hi] at h
  have e2' : ∀ i l, i < n → E'.loc i = some l → E2.loc i = some l := fun i l hi h => by simp [E2, hi, h]
  have hle : Le E E2 := ⟨fun i l hl => e2' i l (Nat.lt_of_lt_of_le (lt i l hl) hn) (hG.le.loc i l hl), hG.le.om⟩
  have honly2 : Only n E' E2 := ⟨fun i l hi hl => e2' i l hi hl, rfl⟩
  have hkn : ∀ {a : AV} {v : Value}, KnN n S a → VR E' a v → VR E2 a v := fun {a v} k x => by
    rcases k with k | k
    · exact VR.back honly2 a v k x
    · exact VR.mono hle a v (Kn.back hS honly lt (.inr k) x)
  have hobj : ∀ i o, s'.heap.get i = some o → ∃ l, E2.loc i = some l ∧ OR E2 w' l o := by
    intro i o hi
    obtain ⟨hlt, ⟨o', hsi, he⟩, hor⟩ := hk i o hi
    obtain ⟨l, hl, ho⟩ := hs.obj i o' hsi
    have ho := he.OR ho
    refine ⟨l, e2' i l hlt hl, ?_⟩
    rcases hor with h0 | h0
    · obtain ⟨l0, hl0, ho0⟩ := hS.obj i o h0
      exact (OR.again honly lt ho0 ho).mono hle
    · cases o with
      | cells e rs op =>
        obtain ⟨a, b, c, fr, h1, h2, h3, h4⟩ := ho
        exact ⟨a, b, c, fr, h1, h2, ⟨h3.1, fun i a v ha hv => ⟨hkn (h0 a (List.mem_of_getElem? ha)) (h3.2 i a v ha hv).1, (h3.2 i a v ha hv).2⟩⟩, h4⟩
      | ro rs => exact OR.back honly2 h0 ho
      | map es c => exact OR.back honly2 h0 ho
      | siter s p => exact ho
      | miter m a seen st => exact OR.back honly2 h0 ho
      | loop L => exact h0.elim
      | dfr shut => exact ho
      | dead => trivial
  refine ⟨v, s', x, E2, hq', rfl, hkn hidv hv, ⟨hobj, fun i j o o' l l' hi hj ho ho' hl hl' hb => ?_, fun i hi => ?_, fun g hg => ?_⟩, ?_⟩
  · obtain ⟨_, ⟨p, hp, he⟩, _⟩ := hk i o hi
    obtain ⟨_, ⟨p', hp', he'⟩, _⟩ := hk j o' hj
    exact hs.inj i j p p' l l' hp hp' (he.live ho) (he'.live ho') (e2 i l hl).2 (e2 j l' hl').2 hb
  · rw [hsn] at hi
    simp [E2, Nat.not_lt.2 hi]
  · exact e2' g _ (by omega) (hs.glob g hg)
  · refine ⟨hle, hG.os, hG.tape, hG.output, hG.size, hG.keep, fun i o l hi ho hl => ?_, by rw [hsn]; exact hn, fun i hi h => ?_⟩
    · obtain ⟨_, ⟨p, hp, he⟩, _⟩ := hk i o hi
      rcases hG.own i p l hp (he.live ho) (e2 i l hl).2 with h | ⟨j, o', l', a, b, c, d, e⟩
      · exact .inl h
      · exact .inr ⟨j, o', l', a, b, c, d, fun x => e (he.wr x)⟩
    · have := hG.fresh i hi h
      show (if i < n then E'.loc i else none) = none
      rw [this]; simp
end Go.Ev
namespace Go.Ev
noncomputable section
def befOr (M : T Nat) (U l : List Nat) (j : Nat) : Bool := l.all fun i => orB (bef M i j) (lmem i U)
def chkGo2 (M W : T Nat) : List Oper → List (List Nat) → Nat → List Nat → List Nat → List Nat → Bool
  | [], _, _, _, _, _ => true
  | o :: l, U :: us, j, acts, reads, news => andB (andB (namesOk M W j o) (afterOk o j)) (match kindOf (opH o.op) with
    | 0 => chkGo2 M W l us (j + 1) acts reads news
    | 1 => befOr M U acts j && chkGo2 M W l us (j + 1) acts (j :: reads) news
    | 2 => chkGo2 M W l us (j + 1) acts reads (j :: news)
    | 3 => befAll M acts j && befOr M U reads j && befAll M news j && chkGo2 M W l us (j + 1) (j :: acts) reads news
    | _ => false)
  | _, _, _, _, _, _ => false
def chkDraw2 (ops : List Oper) (us : List (List Nat)) : Bool := match writers ops with
  | none => false
  | some W => Nat.beq W.2 (llen ops) && chkGo2 (masks ops) W.1 ops us 0 [] [] []
abbrev KD2 := Nat → T AV → AW → List (Nat × AObj) → List Ac → List Rd → Rs
def seqH2 (C : Cx) (R : Iv) (rnd : Option Nat) (sz base : Nat) (U : List Nat) (d : Option Tmp) (j : Nat) (tm : T AV) (S : AW) (pend : List (Nat × AObj)) (acts : List Ac) (reads : List Rd) (k : KD2) : OpH → Rs
  | .val f => orNo (f C tm S) fun v => orNo (putT sz d v tm) fun tm' => k (j + 1) tm' S pend acts reads
  | .rdr f => orNo (f C tm S) fun v => orNo (putT sz d v tm) fun tm' => iteB (lall (fun (p : Ac) => orB (notB (lmem p.j U)) (optSame (f C tm p.S) v)) acts) (k (j + 1) tm' S pend acts (⟨j, f, tm, v⟩ :: reads)) .no
  | .new f => orNo (f C tm (base + j)) fun p => orNo (putT sz d p.1 tm) fun tm' => k (j + 1) tm' S ((base + j, p.2) :: pend) acts reads
  | .act f => orNo (f C R rnd tm (layAll pend S)) fun p => orNo (putT sz d p.1 tm) fun tm' => iteB (lall (fun (r : Rd) => orB (notB (lmem r.j U)) (optSame (r.f C r.tm p.2) r.v)) reads) (k (j + 1) tm' p.2 [] (⟨j, S⟩ :: acts) reads) .no
  | .call f c => orNo (aCall f c C R rnd tm (layAll pend S)) fun p => orNo (putT sz d p.1 tm) fun tm' => iteB (lall (fun (r : Rd) => orB (notB (lmem r.j U)) (optSame (r.f C r.tm p.2) r.v)) reads) (k (j + 1) tm' p.2 [] (⟨j, S⟩ :: acts) reads) .no
  | .vn f g => oel (orNo (g C tm (base + j)) fun p => orNo (putT sz d p.1 tm) fun tm' => k (j + 1) tm' S ((base + j, p.2) :: pend) acts reads) (f C tm S) fun v => orNo (putT sz d v tm) fun tm' => k (j + 1) tm' S pend acts reads
  | .va f _ => orNo (f C tm S) fun v => orNo (putT sz d v tm) fun tm' => iteB (lall (fun (p : Ac) => orB (notB (lmem p.j U)) (optSame (f C tm p.S) v)) acts) (k (j + 1) tm' S pend acts (⟨j, f, tm, v⟩ :: reads)) .no
  | _ => .no
def seqK2 (C : Cx) (R : Iv) (rnd : Option Nat) (sz base : Nat) (ops : List Oper) (dfs : List ADef) : List Oper → List (List Nat) → KD2
  | o :: l, U :: us => fun j tm S pend acts reads => orNo (wantedV ops tm o) fun w => iteB w (seqH2 C R rnd sz base U o.dst j tm S pend acts reads (seqK2 C R rnd sz base ops dfs l us) (opH o.op)) (orNo (putT sz o.dst undefV tm) fun tm' => seqK2 C R rnd sz base ops dfs l us (j + 1) tm' S pend acts reads)
  | [], _ => fun _ tm S pend _ _ => .mk .normal tm dfs (layAll pend S)
  | _, _ => fun _ _ _ _ _ _ => .no
end
section
variable {C : Cx} {R : Iv} {rnd : Option Nat} {sz base : Nat} {ops : List Oper} {dfs : List ADef} {M W : T Nat}
structure Same2 (s : DS) (j : Nat) (tm : T AV) (S : AW) (pend : List (Nat × AObj)) (acts : List Ac) (reads : List Rd) (la lr ln : List Nat) : Prop where
  j : s.j = j
  tm : s.tm = tm
  S : s.S = S
  pend : s.pend.map (fun p => (p.id, p.o)) = pend
  acts : s.acts = acts
  reads : s.reads = reads
  ja : ∀ a ∈ s.acts, a.j ∈ la
  jr : ∀ a ∈ s.reads, a.j ∈ lr
  jn : ∀ a ∈ s.pend, a.j ∈ ln
theorem seq_ok2 : ∀ (l : List Oper) (us : List (List Nat)) {j : Nat} {tm : T AV} {S : AW} {pend : List (Nat × AObj)} {acts : List Ac} {reads : List Rd} {la lr ln : List Nat} {s : DS} {x : Exit} {tm' : T AV} {d' : List ADef} {S' : AW}, chkGo2 M W l us j la lr ln = true → Same2 s j tm S pend acts reads la lr ln → seqK2 C R rnd sz base ops dfs l us j tm S pend acts reads = .mk x tm' d' S' →
    ∃ s', lfoldO (stepD C R rnd sz ops base M W) l s = some s' ∧ x = .normal ∧ s'.tm = tm' ∧ d' = dfs ∧ lfold (fun (S : AW) (p : Pd) => S.put p.id p.o) s'.pend s'.S = S'
  | [], _, j, tm, S, pend, acts, reads, la, lr, ln, s, x, tm', d', S', _, hs, h => by
    cases h
    refine ⟨s, rfl, rfl, hs.tm, rfl, ?_⟩
    rw [lfold_eq, ← hs.S, ← hs.pend]
    unfold layAll
    rw [List.foldl_map]
  | o :: l, [], j, tm, S, pend, acts, reads, la, lr, ln, s, x, tm', d', S', hc, hs, h => by cases hc
  | o :: l, U :: us, j, tm, S, pend, acts, reads, la, lr, ln, s, x, tm', d', S', hc, hs, h => by
    suffices hG : ∃ s1, stepD C R rnd sz ops base M W s o = some s1 ∧ ∃ s', lfoldO (stepD C R rnd sz ops base M W) l s1 = some s' ∧ x = .normal ∧ s'.tm = tm' ∧ d' = dfs ∧ lfold (fun (S : AW) (p : Pd) => S.put p.id p.o) s'.pend s'.S = S' by
      obtain ⟨s1, h1, s', h2, h3⟩ := hG
      exact ⟨s', by rw [lfoldO_cons, h1]; exact h2, h3⟩
    simp only [chkGo2, andB_eq, Bool.and_eq_true] at hc
    obtain ⟨⟨hn, ha⟩, hc⟩ := hc
    obtain ⟨w, hw, h⟩ := orNo_some (show orNo (wantedV ops tm o) _ = _ from h) (by simp)
    have hstep : stepD C R rnd sz ops base M W s o = iteB w (drawH (opH o.op) C R rnd sz base M o.dst s) (ob (putT sz o.dst undefV s.tm) fun tm => some (s.val tm)) := by
      unfold stepD
      rw [hs.j, hn, hs.tm, hw]
      have ha' : lall (fun e => orB (notB (bindsAny e)) (Nat.blt e.on j)) o.after.toList = true := ha
      rw [ha']
      rfl
    rw [hstep]
    have fin : ∀ (s1 : DS) {j1 tm1 S1 pend1 acts1 reads1 la1 lr1 ln1}, chkGo2 M W l us j1 la1 lr1 ln1 = true → Same2 s1 j1 tm1 S1 pend1 acts1 reads1 la1 lr1 ln1 → seqK2 C R rnd sz base ops dfs l us j1 tm1 S1 pend1 acts1 reads1 = .mk x tm' d' S' →
        ∃ s2, some s1 = some s2 ∧ ∃ s', lfoldO (stepD C R rnd sz ops base M W) l s2 = some s' ∧ x = .normal ∧ s'.tm = tm' ∧ d' = dfs ∧ lfold (fun (S : AW) (p : Pd) => S.put p.id p.o) s'.pend s'.S = S' := fun s1 _ _ _ _ _ _ _ _ _ hc1 hs1 h1 => ⟨s1, rfl, seq_ok2 l us hc1 hs1 h1⟩
    have id' : ∀ {l : List Nat}, ∀ i ∈ l, i ∈ l := fun i h => h
    have cons' : ∀ {l : List Nat}, ∀ i ∈ l, i ∈ j :: l := fun i h => List.mem_cons_of_mem _ h
    have iteNo : ∀ {b : Bool} {y : Rs}, iteB b y .no = .mk x tm' d' S' → b = true ∧ y = .mk x tm' d' S' := by
      intro b y h; cases b; cases h; exact ⟨rfl, h⟩
    cases w with
    | false =>
      rw [iteB_f] at h ⊢
      obtain ⟨tm1, hp, h⟩ := orNo_some h (by simp)
      rw [hs.tm, hp, ob_some_eq]
      have hv : ∀ {la' lr' ln'}, (∀ i ∈ la, i ∈ la') → (∀ i ∈ lr, i ∈ lr') → (∀ i ∈ ln, i ∈ ln') → Same2 (s.val tm1) (j + 1) tm1 S pend acts reads la' lr' ln' := fun h1 h2 h3 =>
        ⟨by simp [DS.val, hs.j], rfl, hs.S, hs.pend, hs.acts, hs.reads, fun a ha => h1 _ (hs.ja a ha), fun a ha => h2 _ (hs.jr a ha), fun a ha => h3 _ (hs.jn a ha)⟩
      split at hc
      · exact fin _ hc (hv id' id' id') h
      · exact fin _ (Bool.and_eq_true _ _ ▸ hc).2 (hv id' cons' id') h
      · exact fin _ hc (hv id' id' cons') h
      · simp only [Bool.and_eq_true] at hc
        exact fin _ hc.2 (hv cons' id' id') h
      · cases hc
    | true =>
      rw [iteB_t] at h ⊢
      have pVal : ∀ {f : VH} {la' lr' ln'}, chkGo2 M W l us (j + 1) la' lr' ln' = true → (∀ i ∈ la, i ∈ la') → (∀ i ∈ lr, i ∈ lr') → (∀ i ∈ ln, i ∈ ln') →
          (orNo (f C tm S) fun v => orNo (putT sz o.dst v tm) fun tm' => seqK2 C R rnd sz base ops dfs l us (j + 1) tm' S pend acts reads) = .mk x tm' d' S' →
          ∃ s1, (ob (f C s.tm s.S) fun v => ob (putT sz o.dst v s.tm) fun tm => some (s.val tm)) = some s1 ∧ ∃ s', lfoldO (stepD C R rnd sz ops base M W) l s1 = some s' ∧ x = .normal ∧ s'.tm = tm' ∧ d' = dfs ∧ lfold (fun (S : AW) (p : Pd) => S.put p.id p.o) s'.pend s'.S = S' := by
        intro f la' lr' ln' hc h1 h2 h3 h
        obtain ⟨v, hv, h⟩ := orNo_some h (by simp)
        obtain ⟨tm1, hp, h⟩ := orNo_some h (by simp)
        rw [hs.tm, hs.S, hv, ob_some_eq, hp, ob_some_eq]
        exact fin _ hc ⟨by simp [DS.val, hs.j], rfl, hs.S, hs.pend, hs.acts, hs.reads, fun a ha => h1 _ (hs.ja a ha), fun a ha => h2 _ (hs.jr a ha), fun a ha => h3 _ (hs.jn a ha)⟩ h
      have pRdr : ∀ {f : VH}, befOr M U la j = true → chkGo2 M W l us (j + 1) la (j :: lr) ln = true →
          (orNo (f C tm S) fun v => orNo (putT sz o.dst v tm) fun tm' => iteB (lall (fun (p : Ac) => orB (notB (lmem p.j U)) (optSame (f C tm p.S) v)) acts) (seqK2 C R rnd sz base ops dfs l us (j + 1) tm' S pend acts (⟨j, f, tm, v⟩ :: reads)) .no) = .mk x tm' d' S' →
          ∃ s1, dRdr f C R rnd sz base M o.dst s = some s1 ∧ ∃ s', lfoldO (stepD C R rnd sz ops base M W) l s1 = some s' ∧ x = .normal ∧ s'.tm = tm' ∧ d' = dfs ∧ lfold (fun (S : AW) (p : Pd) => S.put p.id p.o) s'.pend s'.S = S' := by
        intro f hb hc h
        simp only [befOr, List.all_eq_true] at hb
        obtain ⟨v, hv, h⟩ := orNo_some h (by simp)
        obtain ⟨tm1, hp, h⟩ := orNo_some h (by simp)
        obtain ⟨hu, h⟩ := iteNo h
        rw [lall_eq, List.all_eq_true] at hu
        unfold dRdr
        rw [hs.tm, hs.S, hv, ob_some_eq, hp, ob_some_eq]
        have hall : lall (fun (p : Ac) => orB (bef M p.j s.j) (optSame (f C tm p.S) v)) s.acts = true := by
          rw [lall_eq, List.all_eq_true]
          intro a ha
          have h1 := hb _ (hs.ja a ha)
          have h2 := hu a (hs.acts ▸ ha)
          rw [hs.j]
          simp only [orB_eq, notB_eq, Bool.or_eq_true, Bool.not_eq_true'] at h1 h2 ⊢
          rcases h1 with h1 | h1
          · exact .inl h1
          · rcases h2 with h2 | h2
            · rw [h1] at h2; cases h2
            · exact .inr h2
        rw [hall, tst_t]
        exact fin _ hc ⟨by simp [hs.j], rfl, rfl, hs.pend, hs.acts, by simp [hs.j, hs.reads], hs.ja, fun a ha => by
          rcases List.mem_cons.1 ha with rfl | ha
          · simp [hs.j]
          · exact cons' _ (hs.jr a ha), hs.jn⟩ h
      have pNew : ∀ {g : NH}, chkGo2 M W l us (j + 1) la lr (j :: ln) = true →
          (orNo (g C tm (base + j)) fun p => orNo (putT sz o.dst p.1 tm) fun tm' => seqK2 C R rnd sz base ops dfs l us (j + 1) tm' S ((base + j, p.2) :: pend) acts reads) = .mk x tm' d' S' →
          ∃ s1, dNew g C R rnd sz base M o.dst s = some s1 ∧ ∃ s', lfoldO (stepD C R rnd sz ops base M W) l s1 = some s' ∧ x = .normal ∧ s'.tm = tm' ∧ d' = dfs ∧ lfold (fun (S : AW) (p : Pd) => S.put p.id p.o) s'.pend s'.S = S' := by
        intro g hc h
        obtain ⟨p, hv, h⟩ := orNo_some h (by simp)
        obtain ⟨tm1, hp, h⟩ := orNo_some h (by simp)
        unfold dNew
        rw [hs.tm, hs.j]
        show ∃ s1, ob (g C tm (base + j)) _ = some s1 ∧ _
        rw [hv, ob_some_eq, hp, ob_some_eq]
        exact fin _ hc ⟨rfl, rfl, hs.S, by simp [hs.pend], hs.acts, hs.reads, hs.ja, hs.jr, fun a ha => by
          rcases List.mem_cons.1 ha with rfl | ha
          · simp
          · exact cons' _ (hs.jn a ha)⟩ h
      have pAct : ∀ {f : AH}, befAll M la j = true → befOr M U lr j = true → befAll M ln j = true → chkGo2 M W l us (j + 1) (j :: la) lr ln = true →
          (orNo (f C R rnd tm (layAll pend S)) fun p => orNo (putT sz o.dst p.1 tm) fun tm' => iteB (lall (fun (r : Rd) => orB (notB (lmem r.j U)) (optSame (r.f C r.tm p.2) r.v)) reads) (seqK2 C R rnd sz base ops dfs l us (j + 1) tm' p.2 [] (⟨j, S⟩ :: acts) reads) .no) = .mk x tm' d' S' →
          ∃ s1, dAct f C R rnd sz base M o.dst s = some s1 ∧ ∃ s', lfoldO (stepD C R rnd sz ops base M W) l s1 = some s' ∧ x = .normal ∧ s'.tm = tm' ∧ d' = dfs ∧ lfold (fun (S : AW) (p : Pd) => S.put p.id p.o) s'.pend s'.S = S' := by
        intro f hb1 hb2 hb3 hc h
        rw [befAll_iff] at hb1 hb3
        simp only [befOr, List.all_eq_true] at hb2
        obtain ⟨p, hv, h⟩ := orNo_some h (by simp)
        obtain ⟨tm1, hp, h⟩ := orNo_some h (by simp)
        obtain ⟨hu, h⟩ := iteNo h
        rw [lall_eq, List.all_eq_true] at hu
        have hlay : layPend M s.j s.pend s.S = layAll pend S := by
          rw [lay_all (fun p hp => by rw [hs.j]; exact hb3 _ (hs.jn p hp)), hs.pend, hs.S]
        have hall1 : lall (fun (p : Ac) => bef M p.j s.j) s.acts = true := by
          rw [lall_eq, List.all_eq_true]
          intro a ha
          rw [hs.j]; exact hb1 _ (hs.ja a ha)
        have hall2 : lall (fun (r : Rd) => orB (bef M r.j s.j) (optSame (r.f C r.tm p.2) r.v)) s.reads = true := by
          rw [lall_eq, List.all_eq_true]
          intro a ha
          have h1 := hb2 _ (hs.jr a ha)
          have h2 := hu a (hs.reads ▸ ha)
          rw [hs.j]
          simp only [orB_eq, notB_eq, Bool.or_eq_true, Bool.not_eq_true'] at h1 h2 ⊢
          rcases h1 with h1 | h1
          · exact .inl h1
          · rcases h2 with h2 | h2
            · rw [h1] at h2; cases h2
            · exact .inr h2
        have hpend : lfilter (fun q => notB (bef M q.j s.j)) s.pend = [] := by
          rw [lfilter_eq, List.filter_eq_nil_iff]
          intro a ha
          rw [hs.j, hb3 _ (hs.jn a ha)]; simp [notB]
        unfold dAct
        rw [hall1, tst_t]
        unfold dAct2
        rw [hlay, hs.tm, hv, ob_some_eq, hp, ob_some_eq, hall2, tst_t, hpend]
        exact fin _ hc ⟨by simp [hs.j], rfl, rfl, rfl, by simp [hs.j, hs.S, hs.acts], hs.reads, fun a ha => by
          rcases List.mem_cons.1 ha with rfl | ha
          · simp [hs.j]
          · exact cons' _ (hs.ja a ha), hs.jr, fun a ha => by cases ha⟩ h
      cases ho : opH o.op with
      | val f => rw [ho] at h hc; exact pVal hc id' id' id' h
      | rdr f => rw [ho] at h hc; simp only [kindOf, Bool.and_eq_true] at hc; exact pRdr hc.1 hc.2 h
      | new g => rw [ho] at h hc; exact pNew hc h
      | act f => rw [ho] at h hc; simp only [kindOf, Bool.and_eq_true] at hc; exact pAct hc.1.1.1 hc.1.1.2 hc.1.2 hc.2 h
      | call f c => rw [ho] at h hc; simp only [kindOf, Bool.and_eq_true] at hc; exact pAct (f := aCall f c) hc.1.1.1 hc.1.1.2 hc.1.2 hc.2 h
      | vn f g =>
        rw [ho] at h hc
        show ∃ s1, dVn f g C R rnd sz base M o.dst s = some s1 ∧ _
        unfold dVn
        change oel _ (f C tm S) _ = _ at h
        cases hv : f C tm S with
        | none =>
          rw [hv, oel_none] at h
          rw [hs.tm, hs.S, hv, oel_none]
          exact pNew hc h
        | some v =>
          rw [hv, oel_some_eq] at h
          rw [hs.tm, hs.S, hv, oel_some_eq]
          have := pVal (f := f) hc id' id' cons' (by rw [hv]; exact h)
          rw [hs.tm, hs.S, hv, ob_some_eq] at this
          exact this
      | va f g => rw [ho] at h hc; simp only [kindOf, Bool.and_eq_true] at hc; exact pRdr hc.1 hc.2 h
      | dfr c => rw [ho] at hc; cases hc
      | rcv => rw [ho] at hc; cases hc
      | no => rw [ho] at hc; cases hc
theorem regD_seq2 {ops : List Oper} {us : List (List Nat)} {tm tm' : T AV} {S S' : AW} {x : Exit} {d' : List ADef} (hc : chkDraw2 ops us = true) (h : seqK2 C R rnd sz S.next ops dfs ops us 0 tm { heap := S.heap, next := S.next + ops.length } [] [] [] = .mk x tm' d' S') : regD C R rnd sz ops tm dfs S = .mk x tm' d' S' := by
  unfold chkDraw2 at hc
  unfold regD
  cases hw : writers ops with
  | none => rw [hw] at hc; cases hc
  | some W =>
    rw [hw] at hc
    simp only [andB_eq, Bool.and_eq_true] at hc
    have hl : W.2 = ops.length := by rw [← llen_eq]; exact eq_of_beq hc.1
    obtain ⟨s', h1, rfl, rfl, rfl, h5⟩ := seq_ok2 ops us hc.2 (s := { tm := tm, S := { heap := S.heap, next := Nat.add S.next W.2 }, j := 0, pend := [], acts := [], reads := [] }) ⟨rfl, rfl, by rw [hl]; rfl, rfl, rfl, rfl, fun a h => (by cases h), fun a h => (by cases h), fun a h => (by cases h)⟩ h
    rw [orNo_some_eq, h1, orNo_some_eq, h5]
/-- A drawn region with R for its calls. -/
theorem runs_draw {id : Nat} {ops : Array Oper} {us : List (List Nat)} {tm : T AV} {S : AW} {Q : AQ} (hR : IvOk C R) (hm : C.P.follows .mixedOrders = true) (hc : chkDraw2 ops.toList us = true) (h : RsOk Q (seqK2 C R rnd sz S.next ops.toList dfs ops.toList us 0 tm { heap := S.heap, next := S.next + ops.toList.length } [] [] [])) : Runs C rnd sz (.region id ops true) tm dfs S Q := by
  cases hr : seqK2 C R rnd sz S.next ops.toList dfs ops.toList us 0 tm { heap := S.heap, next := S.next + ops.toList.length } [] [] [] with
  | no => rw [hr] at h; exact h.elim
  | mk x t d s =>
    rw [hr] at h
    exact runs_eval (N := 0) hR hm (show regD C R rnd sz ops.toList tm dfs S = _ from regD_seq2 hc hr) h
end
section
variable {C : Cx} {R : Iv} {rnd : Option Nat} {sz base : Nat} {ops : List Oper} {dfs : List ADef} {d : Option Tmp} {j : Nat} {tm : T AV} {S : AW} {pend : List (Nat × AObj)} {acts : List Ac} {reads : List Rd} {k : KD2} {U : List Nat}
theorem seqK2_nil (us : List (List Nat)) : seqK2 C R rnd sz base ops dfs [] us j tm S pend acts reads = .mk .normal tm dfs (layAll pend S) := rfl
theorem seqK2_cons (o : Oper) (l : List Oper) (us : List (List Nat)) : seqK2 C R rnd sz base ops dfs (o :: l) (U :: us) j tm S pend acts reads = orNo (wantedV ops tm o) fun w => iteB w (seqH2 C R rnd sz base U o.dst j tm S pend acts reads (seqK2 C R rnd sz base ops dfs l us) (opH o.op)) (orNo (putT sz o.dst undefV tm) fun tm' => seqK2 C R rnd sz base ops dfs l us (j + 1) tm' S pend acts reads) := rfl
theorem seqH2_val (f : VH) : seqH2 C R rnd sz base U d j tm S pend acts reads k (.val f) = orNo (f C tm S) fun v => orNo (putT sz d v tm) fun tm' => k (j + 1) tm' S pend acts reads := rfl
theorem seqH2_rdr (f : VH) : seqH2 C R rnd sz base U d j tm S pend acts reads k (.rdr f) = orNo (f C tm S) fun v => orNo (putT sz d v tm) fun tm' => iteB (lall (fun (p : Ac) => orB (notB (lmem p.j U)) (optSame (f C tm p.S) v)) acts) (k (j + 1) tm' S pend acts (⟨j, f, tm, v⟩ :: reads)) .no := rfl
theorem seqH2_new (f : NH) : seqH2 C R rnd sz base U d j tm S pend acts reads k (.new f) = orNo (f C tm (base + j)) fun p => orNo (putT sz d p.1 tm) fun tm' => k (j + 1) tm' S ((base + j, p.2) :: pend) acts reads := rfl
theorem seqH2_act (f : AH) : seqH2 C R rnd sz base U d j tm S pend acts reads k (.act f) = orNo (f C R rnd tm (layAll pend S)) fun p => orNo (putT sz d p.1 tm) fun tm' => iteB (lall (fun (r : Rd) => orB (notB (lmem r.j U)) (optSame (r.f C r.tm p.2) r.v)) reads) (k (j + 1) tm' p.2 [] (⟨j, S⟩ :: acts) reads) .no := rfl
theorem seqH2_call (f : Operand) (c : Call) : seqH2 C R rnd sz base U d j tm S pend acts reads k (.call f c) = orNo (aCall f c C R rnd tm (layAll pend S)) fun p => orNo (putT sz d p.1 tm) fun tm' => iteB (lall (fun (r : Rd) => orB (notB (lmem r.j U)) (optSame (r.f C r.tm p.2) r.v)) reads) (k (j + 1) tm' p.2 [] (⟨j, S⟩ :: acts) reads) .no := rfl
theorem seqH2_vn (f : VH) (g : NH) : seqH2 C R rnd sz base U d j tm S pend acts reads k (.vn f g) = oel (orNo (g C tm (base + j)) fun p => orNo (putT sz d p.1 tm) fun tm' => k (j + 1) tm' S ((base + j, p.2) :: pend) acts reads) (f C tm S) fun v => orNo (putT sz d v tm) fun tm' => k (j + 1) tm' S pend acts reads := rfl
theorem seqH2_va (f : VH) (g : AH) : seqH2 C R rnd sz base U d j tm S pend acts reads k (.va f g) = orNo (f C tm S) fun v => orNo (putT sz d v tm) fun tm' => iteB (lall (fun (p : Ac) => orB (notB (lmem p.j U)) (optSame (f C tm p.S) v)) acts) (k (j + 1) tm' S pend acts (⟨j, f, tm, v⟩ :: reads)) .no := rfl
theorem lall_nil {α : Type} (p : α → Bool) : lall p [] = true := rfl
theorem lall_cons {α : Type} (p : α → Bool) (x : α) (l : List α) : lall p (x :: l) = iteB (p x) (lall p l) false := by
  show (bif p x then lall p l else false) = _
  cases p x <;> rfl
theorem lmem_nil (n : Nat) : lmem n [] = false := rfl
theorem lmem_cons (n x : Nat) (l : List Nat) : lmem n (x :: l) = if x = n then true else lmem n l := by
  rw [lmem_eq, lmem_eq, List.contains_cons]
  by_cases h : x = n
  · subst h; simp
  · rw [if_neg h]; simp [Ne.symm h]
theorem orB_t (b : Bool) : orB true b = true := rfl
theorem orB_f (b : Bool) : orB false b = b := rfl
theorem optSame_some (v u : AV) : optSame (some v) u = sameV1 v u := rfl
theorem ieq_self (n : Int) : ieq n n = true := by
  cases n with
  | ofNat m => exact beq_self m
  | negSucc m => exact beq_self m
theorem same_int (k : IntKind) (n : Int) : sameV1 (.int k n) (.int k n) = true := by
  show andB (ikeq k k) (ieq n n) = true
  rw [ikeq_self, ieq_self]; rfl
theorem same_bool (b : Bool) : sameV1 (.bool b) (.bool b) = true := by cases b <;> rfl
theorem same_ptr (i o : Nat) : sameV1 (.ptr i o) (.ptr i o) = true := by
  show andB (Nat.beq i i) (Nat.beq o o) = true
  rw [beq_self, beq_self]; rfl
theorem same_map (i : Nat) : sameV1 (.map i) (.map i) = true := beq_self i
theorem same_sl (i o n : Nat) (c : Cap) : sameV1 (.sl i o n c) (.sl i o n c) = true := by
  show andB (Nat.beq i i) (andB (Nat.beq o o) (andB (Nat.beq n n) (capSame c c))) = true
  rw [beq_self, beq_self, beq_self]
  cases c with
  | ex m => exact beq_self m
  | rest m => exact beq_self m
end
end Go.Ev
namespace Go.Ev
/-- f gives v and leaves S', whatever is drawn. -/
def Det (C : Cx) (f : FuncId) (args : List AV) (S : AW) (v : AV) (S' : AW) : Prop := Ret C f args S (fun v' s => v' = v ∧ s = S')
theorem Det.callR {C : Cx} {f : FuncId} {args : List AV} {S S' : AW} {v : AV} (h : Det C f args S v S') {E : Env} {w : World} {vs : List Value} (hS : Sim E S w) (ha : LR E args vs) : CallR C f vs.toArray w E S v S' := by
  obtain ⟨h1, h2⟩ := h.go hS ha
  refine .inl ⟨h1, fun n => CallsIn.mono (h2 n) ?_⟩
  rintro e w' ⟨v', s, x, E', ⟨rfl, rfl⟩, rfl, b, c, d⟩
  exact ⟨x, E', rfl, b, c, d⟩
open Classical in
/-- an interpreter that knows one call -/
noncomputable def oneCall (f : FuncId) (args : List AV) (S : AW) (v : AV) (S' : AW) : Iv :=
  ⟨fun _ _ _ _ _ _ => .no, fun g as s => if g = f ∧ as = args ∧ s = S then some (v, S') else none, fun _ _ _ _ _ => .no⟩
theorem oneCall_ok {C : Cx} {f : FuncId} {args : List AV} {S S' : AW} {v : AV} (h : Det C f args S v S') : IvOk C (oneCall f args S v S') := by
  refine ⟨?_, ?_, ?_⟩
  · intro g as s s' u E w vs hc hS ha
    simp only [oneCall] at hc
    split at hc
    · rename_i he
      obtain ⟨rfl, rfl, rfl⟩ := he
      cases hc
      exact h.callR hS ha
    · cases hc
  · intro c rnd sz tm tm' dfs dfs' S S' x E w act F n h; cases h
  · intro c sz tm tm' dfs dfs' S S' x E w act n c0 cs h; cases h
theorem oneCall_call (f : FuncId) (args : List AV) (S : AW) (v : AV) (S' : AW) : (oneCall f args S v S').call f args S = some (v, S') := by
  simp only [oneCall]
  simp
theorem aCall_fn {C : Cx} {R : Iv} {rnd : Option Nat} {tm : T AV} {S : AW} {g : FuncId} {c : Call} : aCall (.func g) c C R rnd tm S = ob (lmapO (aev tm) c.args.toList) fun args => R.call g args S := by
  unfold aCall
  show ob (lmapO (aev tm) c.args.toList) (fun args => R.call g (lapp [] (lapp args [])) S) = _
  congr 1
  funext args
  rw [lapp_eq, lapp_eq]; simp
theorem hCallee_value (f : Operand) (c : Call) : hCallee (.value f) c = .call f c := rfl
theorem argTm_get {args : List AV} {t : Nat} {a : AV} (h : args[t]? = some a) : (argTm args).get t = some a := by
  have key : ∀ (as : List AV) (k : Nat) (t0 : T AV) (t : Nat), k ≤ t → as[t - k]? = some a → (lfold (fun (s : T AV × Nat) v => (s.1.set s.2 v, Nat.succ s.2)) as (t0, k)).1.get t = some a := by
    intro as
    induction as with
    | nil => intro k t0 t _ h; simp at h
    | cons x as ih =>
      intro k t0 t hk h
      rw [lfold_cons]
      by_cases e : t = k
      · subst e
        rw [Nat.sub_self] at h
        simp at h; subst h
        have keep : ∀ (as : List AV) (j : Nat) (t0 : T AV), t < j → t0.get t = some x → (lfold (fun (s : T AV × Nat) v => (s.1.set s.2 v, Nat.succ s.2)) as (t0, j)).1.get t = some x := by
          intro as
          induction as with
          | nil => intro j t0 _ h; exact h
          | cons y as ih2 =>
            intro j t0 hj h
            rw [lfold_cons]
            exact ih2 (j + 1) _ (by omega) (by rw [T.get_set_other _ _ (by omega)]; exact h)
        exact keep as (t + 1) _ (by omega) (T.get_set_same _ _ _)
      · refine ih (k + 1) _ t (by omega) ?_
        have : t - k = (t - (k + 1)) + 1 := by omega
        rw [this] at h
        simpa using h
  exact key args 0 .e t (Nat.zero_le _) (by simpa using h)
/- append to a slice of nothing -/
theorem append_empty {tt : T Ty} {t e : TypeId} {d : Ty} {z : RL} {y : Nat} {b : Bool} (h : shT tt t = some (.slice e, y, b)) (he : tt.get e = some d) (hz : zerosV tt e 0 = some z) (h1 : 1 ≤ d.size) (h2 : d.bytes ≤ 1048576) {S : AW} {id i o n : Nat} {c : Cap} {o' : AObj} {rs r : RL}
    (hi : S.heap.get i = some o') (hr : rowOf o' = some rs) (hx : rext rs o (n * d.size) = some r) (hn : n ≤ 1048576) :
    appendV tt S [t, t] [.sl id 0 0 (.ex 0), .sl i o n c] = some (if n = 0 then (.sl id 0 0 (.ex 0), S) else (.sl S.next 0 n (.rest 0), { heap := S.heap.set S.next (.cells e r (some d.size)), next := S.next + 1 })) := by
  obtain ⟨dt, g1, g2, _, _⟩ := shT_some h
  have hu := sh_slice g2
  have hlen := (rext_some hx).2
  have hse : sliceElem tt t = some e := by unfold sliceElem; rw [g1, ob_some_eq, hu]; rfl
  have hrc : rcells S i = some rs := by unfold rcells; rw [hi]; exact hr
  have happ : appended tt S e d.size t (.sl i o n c) = some (n, if n = 0 then [] else r) := by
    unfold appended
    rw [g1, ob_some_eq, hu]
    show iteB false _ (tst (orB true false) (ob (some n) fun n' => ob (iteB (Nat.beq n' 0) (some []) (ob (rcells S i) fun rs => rext rs o (Nat.mul n' d.size))) fun cs => some (n', cs))) = _
    show ob (iteB (Nat.beq n 0) (some []) (ob (rcells S i) fun rs => rext rs o (Nat.mul n d.size))) (fun cs => some (n, cs)) = _
    by_cases h0 : n = 0
    · subst h0; rfl
    · rw [beq_of_ne h0, iteB_f, hrc, ob_some_eq]
      show ob (rext rs o (n * d.size)) _ = _
      rw [hx, if_neg h0]; rfl
  unfold appendV
  simp only [lget_zero, lget_one, ob_some_eq, hse, he, hz, happ]
  unfold appendTo
  by_cases h0 : n = 0
  · subst h0
    simp only [if_true]
    have e1 : Nat.beq (rlen ([] : RL)) (Nat.mul 0 d.size) = true := by show Nat.beq 0 (0 * d.size) = true; rw [Nat.zero_mul]; rfl
    rw [e1, tst_t, ble_iff.2 h1, tst_t, ble_iff.2 h2, tst_t]
    rfl
  · simp only [if_neg h0]
    have e1 : Nat.beq (rlen r) (Nat.mul n d.size) = true := by rw [rlen_eq, hlen]; exact beq_self _
    rw [e1, tst_t, ble_iff.2 h1, tst_t, ble_iff.2 h2, tst_t, ble_iff.2 hn, tst_t, beq_of_ne h0, iteB_f]
    show appEx S e d n r ⟨id, 0, 0, .ex 0⟩ 0 = _
    unfold appEx
    have e2 : Nat.ble (Nat.add 0 n) 0 = false := by rw [Nat.add_eq, Nat.zero_add]; exact ble_false.2 (by omega)
    rw [e2, iteB_f]
    show ob (some []) _ = _
    rw [ob_some_eq, lapp_eq, Nat.add_eq, Nat.zero_add]; rfl
end Go.Ev
namespace Go.Ev
theorem lfind_born {es : List Ent} {e : Ent} (he : e ∈ es) (hnd : (es.map Ent.born).Nodup) : lfind (fun x => Nat.beq x.born e.born) es = some e := by
  induction es with
  | nil => cases he
  | cons x es ih =>
    rw [lfind_cons]
    rw [List.map_cons, List.nodup_cons] at hnd
    rcases List.mem_cons.1 he with rfl | he
    · rw [beq_self]; rfl
    · have : x.born ≠ e.born := fun h => hnd.1 (h ▸ List.mem_map_of_mem he)
      rw [beq_of_ne this]
      exact ih he hnd.2
theorem left_step {es : List Ent} {seen : List Nat} {e : Ent} (he : e ∈ leftOf es seen) : (leftOf es (e.born :: seen)).length < (leftOf es seen).length := by
  unfold leftOf at he ⊢
  have h1 : (es.filter fun x => !(lmem x.born (e.born :: seen))) = (es.filter fun x => !(lmem x.born seen)).filter fun x => !(x.born == e.born) := by
    rw [List.filter_filter]
    apply List.filter_congr
    intro x _
    rw [lmem_eq, lmem_eq, List.contains_cons, Bool.not_or]
  rw [h1]
  refine Nat.lt_of_le_of_ne (List.length_filter_le _ _) fun hl => ?_
  have := List.length_filter_eq_length_iff.1 hl e he
  simp at this
theorem inj_of_nodup {α β : Type} {f : α → β} {l : List α} (h : (l.map f).Nodup) {x y : α} (hx : x ∈ l) (hy : y ∈ l) (e : f x = f y) : x = y := by
  induction l with
  | nil => cases hx
  | cons a l ih =>
    rw [List.map_cons, List.nodup_cons] at h
    rcases List.mem_cons.1 hx with h1 | h1 <;> rcases List.mem_cons.1 hy with h2 | h2
    · rw [h1, h2]
    · exact absurd (by rw [← h1, e]; exact List.mem_map_of_mem h2) h.1
    · exact absurd (by rw [← h2, ← e]; exact List.mem_map_of_mem h1) h.1
    · exact ih h.2 h1 h2
end Go.Ev
namespace Go.Ev
/-- All keys are strings. -/
def StrKeys (es : List Ent) : Prop := ∀ e ∈ es, ∃ k, e.key = .str k
theorem findE_str {k : List Nat} : ∀ {es : List Ent} (i : Nat), StrKeys es → ∃ r, findE (.str k) es i = some r
  | [], i, _ => ⟨none, rfl⟩
  | e :: es, i, h => by
    obtain ⟨s, hs⟩ := h e (by simp)
    obtain ⟨r, hr⟩ := findE_str (k := k) (es := es) (i + 1) fun x hx => h x (by simp [hx])
    show ∃ r, ob (keyEq (.str k) e.key) (fun b => iteB b (some (some (i, e.val))) (findE (.str k) es (Nat.succ i))) = some r
    rw [hs]
    show ∃ r, ob (some (lbeq k s)) _ = some r
    rw [ob_some_eq]
    cases lbeq k s with
    | true => exact ⟨_, rfl⟩
    | false => exact ⟨r, hr⟩
theorem setE_str {es : List Ent} {j : Nat} {v : AV} (h : StrKeys es) : StrKeys (setE es j v) := by
  unfold setE
  rw [lget_eq]
  cases hg : es[j]? with
  | none => exact h
  | some e =>
    rw [oel_some_eq, lset_eq]
    intro x hx
    rcases List.mem_or_eq_of_mem_set hx with hx | rfl
    · exact h x hx
    · exact h e (List.mem_of_getElem? hg)
theorem mapUpdate_str {tt : T Ty} {t k e z : Nat} {a : Bool} {S : AW} {i c : Nat} {es : List Ent} {s : List Nat} {v : AV} (h : shT tt t = some (.map k e, z, a)) (hk : ∀ s, keyOk tt k false (.str s) = true) (hm : S.heap.get i = some (.map es c)) (hs : StrKeys es) :
    ∃ es' c', mapUpdateV tt S t (.map i) (.str s) v = some { heap := S.heap.set i (.map es' c'), next := S.next } ∧ StrKeys es' := by
  obtain ⟨d, h1, h2, _, _⟩ := shT_some h
  obtain ⟨r, hr⟩ := findE_str (k := s) 0 hs
  have e0 : mapOf S (.map i) = some ⟨i, es, c⟩ := by
    unfold mapOf
    show ob (S.heap.get i) _ = _
    rw [hm]; rfl
  have e1 : mapUpdateV tt S t (.map i) (.str s) v = some (S.put i (oel (newE ⟨i, es, c⟩ (.str s) v) r fun p => .map (setE es p.1 v) c)) := by
    unfold mapUpdateV
    rw [h1, ob_some_eq, sh_map h2]
    show ob (mapOf S (.map i)) (fun q => tst (keyOk tt k false (.str s)) (ob (findE (.str s) q.es 0) fun r => some (S.put q.i (oel (newE q (.str s) v) r fun p => .map (setE q.es p.1 v) q.clock)))) = _
    rw [e0, ob_some_eq, hk, tst_t, hr]; rfl
  cases r with
  | none =>
    refine ⟨_, _, e1, ?_⟩
    intro x hx
    rw [lapp_eq, List.mem_append] at hx
    rcases hx with hx | hx
    · exact hs x hx
    · simp at hx; subst hx; exact ⟨s, rfl⟩
  | some p => exact ⟨_, _, e1, setE_str hs⟩
end Go.Ev
