/- The evaluator's code, loops, calls are true to the model. -/
import Derived.Test.YtdkkdfplkmfheaaGreatDoorEc
import Derived.RangeFuncRecord
import Derived.Scope
import Derived.LoopNIn
import Derived.OrdersIn
set_option linter.unusedSimpArgs false
set_option linter.unusedVariables false
namespace Go.Ev
def RndOk (E : Env) (rnd : Option Nat) (F : Fence) : Prop :=
  match rnd with
  | none => F = Fence.wide
  | some l => ∃ k, E.loc l = some k ∧ F = Fence.wide.inRound k.blk
theorem RndOk.mono {E E' : Env} (h : Le E E') {rnd : Option Nat} {F : Fence} (k : RndOk E rnd F) : RndOk E' rnd F := by
  cases rnd with
  | none => exact k
  | some l => obtain ⟨b, h1, h2⟩ := k; exact ⟨b, h.loc _ _ h1, h2⟩
theorem RndOk.fn {E : Env} {rnd : Option Nat} {F : Fence} (k : RndOk E rnd F) (f : FuncId) : F.fn f := by
  cases rnd with
  | none => rw [show F = Fence.wide from k]; trivial
  | some l => obtain ⟨b, _, h2⟩ := k; rw [h2]; trivial
theorem RndOk.depth {E : Env} {rnd : Option Nat} {F : Fence} (k : RndOk E rnd F) : F.depth = none := by
  cases rnd with
  | none => rw [show F = Fence.wide from k]; rfl
  | some l => obtain ⟨b, _, h2⟩ := k; rw [h2]; rfl
structure Rel (C : Cx) (E : Env) (S : AW) (w : World) (tm : T AV) (dfs : List ADef) (act : Act) : Prop extends At C E S w tm act where
  dfr : DR E dfs act.defers
theorem forceN_id {β : Type} (m : Nat) (k : Nat → β) : forceN m k = k m := forceN_eq m k
theorem forceI_eq (n : Int) (k : Int → Option (T AV)) : forceI n k = k n := by
  cases n with
  | ofNat m => exact forceN_eq m (fun m => k (.ofNat m))
  | negSucc m => exact forceN_eq m (fun m => k (.negSucc m))
theorem forceV_eq (v : AV) (k : AV → Option (T AV)) : forceV v k = k v := by
  cases v with
  | bool b => cases b <;> rfl
  | int j n => exact forceI_eq n (fun n => k (.int j n))
  | ptr i o =>
    show forceN i (fun i => forceN o (fun o => k (.ptr i o))) = _
    rw [forceN_eq, forceN_eq]
  | sl i o n c =>
    show forceN i (fun i => forceN o (fun o => forceN n (fun n => forceC c (fun c => k (.sl i o n c))))) = _
    rw [forceN_eq, forceN_eq, forceN_eq]
    cases c with
    | ex m => exact forceN_eq m (fun m => k (.sl i o n (.ex m)))
    | rest m => exact forceN_eq m (fun m => k (.sl i o n (.rest m)))
  | _ => rfl
theorem putT_TR {E : Env} {sz : Nat} {dst : Option Tmp} {v : AV} {tm tm' : T AV} {act : Act} {x : Value} (h : putT sz dst v tm = some tm') (ht : TR E sz tm act.tmps) (hv : VR E v x) : TR E sz tm' (act.put dst x).tmps := by
  cases dst with
  | none => simp only [putT, oel_none, Option.some.injEq] at h; subst h; exact ht
  | some d =>
    simp only [putT, oel_some, tst_some, blt_iff, forceV_eq, Option.some.injEq] at h
    obtain ⟨hd, rfl⟩ := h
    refine ⟨by simp [Act.put, ht.1], fun t a ha => ?_⟩
    rw [T.get_set] at ha
    by_cases e : t = d
    · rw [if_pos e] at ha
      cases ha
      subst e
      have : t < act.tmps.size := by rw [ht.1]; exact hd
      simp [Act.put, Array.getD_eq_getD_getElem?, this]
      exact hv
    · rw [if_neg e] at ha
      have := ht.2 t a ha
      simp only [Act.put, Array.getD_eq_getD_getElem?] at this ⊢
      rw [Array.getElem?_setIfInBounds_ne (Ne.symm e)]
      exact this
theorem put_size (act : Act) (dst : Option Tmp) (x : Value) : (act.put dst x).tmps.size = act.tmps.size := by cases dst <;> simp [Act.put]
theorem put_defers (act : Act) (dst : Option Tmp) (x : Value) : (act.put dst x).defers = act.defers := by cases dst <;> rfl
/-- The frame behind an operation. -/
theorem Rel.put {C : Cx} {E E' : Env} {S S' : AW} {w w' : World} {tm tm' : T AV} {dfs : List ADef} {act : Act} {dst : Option Tmp} {v : AV} {x : Value} (h : Rel C E S w tm dfs act) (hl : Le E E') (hs : Sim E' S' w') (hp : putT act.tmps.size dst v tm = some tm') (hv : VR E' v x) :
    Rel C E' S' w' tm' dfs (act.put dst x) := by
  refine { ty := h.ty, sim := hs, tmp := ?_, dfr := ?_ }
  · rw [put_size]
    exact putT_TR hp (h.tmp.mono hl) hv
  · rw [put_defers]; exact h.dfr.mono hl
theorem guardV_sound {E : Env} {sz : Nat} {ops : List Oper} {tm : T AV} {act : Act} {g : Nat × Bool} {b : Bool} (h : guardV ops tm g = some b) (ht : TR E sz tm act.tmps) : (yielded ops.toArray act.tmps g.1 == some g.2) = b := by
  simp only [guardV, ob_some, lget_eq] at h
  obtain ⟨o, ho, t, hd, v, hv, h⟩ := h
  have hx := ht.2 t v hv
  have hy : ((ops.toArray[g.1]?).bind (·.dst)).bind (act.tmps[·]?) = act.tmps[t]? := by simp [ho, hd]
  unfold yielded
  rw [hy]
  have hne : ∀ x : Value, act.tmps.getD t undef = x → x ≠ undef → act.tmps[t]? = some x := by
    intro x hx hn
    rw [Array.getD_eq_getD_getElem?] at hx
    cases hq : act.tmps[t]? with
    | none => rw [hq] at hx; exact absurd hx.symm hn
    | some y => rw [hq] at hx; simpa using hx
  cases hb : dBool v with
  | some c =>
    simp only [hb, oel_some, Option.some.injEq, beqB_eq] at h
    rw [dBool_some] at hb
    subst hb
    simp only [VR] at hx
    rw [hne _ hx (by simp [undef])]
    rw [← h]
    cases c <;> cases g.2 <;> rfl
  | none =>
    simp only [hb, oel_none, ob_some, dTup_some, tst_some, isEmpty_iff, Option.some.injEq] at h
    obtain ⟨vs, rfl, rfl, rfl⟩ := h
    simp only [VR, VRL] at hx
    obtain ⟨xs, hx, rfl⟩ := hx
    cases hq : act.tmps[t]? with
    | none => rfl
    | some y =>
      rw [Array.getD_eq_getD_getElem?, hq] at hx
      simp only [Option.getD_some] at hx
      subst hx
      rfl
end Go.Ev
namespace Go.Ev
/-- What a wanted operation does to frame and memory. -/
def StepOk (C : Cx) (F : Fence) (n : Nat) (o : Oper) (E : Env) (S : AW) (w : World) (act : Act) (v : AV) (S' : AW) : Prop :=
  ∀ (next : Act → World → Prop) (Q : Exit → Act → World → Prop), (∀ x w' E', VR E' v x → Sim E' S' w' → Grow S.next E S w E' S' w' → next (act.put o.dst x) w') → o.wpIn F n C.P act w next Q
def notDefer (op : Op) : Prop := ∀ c, op ≠ .defer c
theorem wpIn_value {F : Fence} {n : Nat} {P : Program} {o : Oper} {a : Act} {w w' : World} {next : Act → World → Prop} {Q : Exit → Act → World → Prop} {x : Value} (hF : ∀ f, F.fn f) (hnd : notDefer o.op) (h : (execOp a.eval o).run P w = .ok (.value x) w') (k : next (a.put o.dst x) w') : o.wpIn F n P a w next Q := by
  refine ⟨fun f _ => hF f, ?_⟩
  rw [Oper.semAt_eq _ _ _ hnd, h]
  exact k
theorem wpIn_skipped {F : Fence} {n : Nat} {P : Program} {o : Oper} {a : Act} {w w' : World} {next : Act → World → Prop} {Q : Exit → Act → World → Prop} (hF : ∀ f, F.fn f) (hnd : notDefer o.op) (h : (execOp a.eval o).run P w = .ok .skip w') (k : next (a.put o.dst undef) w') : o.wpIn F n P a w next Q := by
  refine ⟨fun f _ => hF f, ?_⟩
  rw [Oper.semAt_eq _ _ _ hnd, h]
  exact k
theorem Does.step {C : Cx} {F : Fence} {n : Nat} {o : Oper} {E : Env} {S S' : AW} {w : World} {act : Act} {v : AV} (h : Does C E S w act o v S') (hF : ∀ f, F.fn f) (hnd : notDefer o.op) : StepOk C F n o E S w act v S' := by
  intro next Q k
  obtain ⟨x, w', E', h1 | ⟨h1, rfl⟩, h2, h3, h4⟩ := h
  · exact wpIn_value hF hnd h1 (k x w' E' h2 h3 h4)
  · exact wpIn_skipped hF hnd h1 (k undef w' E' h2 h3 h4)
theorem Got.does {C : Cx} {o : Oper} {E : Env} {S : AW} {w : World} {act : Act} {v : AV} (h : Got C E w act o v) (hS : Sim E S w) : Does C E S w act o v S := by
  obtain ⟨x, h1, h2⟩ := h
  exact ⟨x, w, E, .inl h1, h2, hS, Grow.refl _ _ _ _⟩
theorem NHok.does {f : NH} {op : Op} (hf : NHok f op) {C : Cx} {E : Env} {S : AW} {w : World} {tm : T AV} {act : Act} {o : Oper} {v : AV} {ob : AObj} (ho : o.op = op) (hA : At C E S w tm act) (h : f C tm S.next = some (v, ob)) : Does C E S w act o v { heap := S.heap.set S.next ob, next := Nat.succ S.next } := by
  have hE := hA.sim.new S.next (Nat.le_refl _)
  obtain ⟨x, w', l, h1, h2, h3⟩ := hf ho hA hE h
  obtain ⟨q1, q2⟩ := h3.sim hA.sim hE (n := Nat.succ S.next) (Nat.le_succ _) (Nat.lt_succ_self _) (k := S.next) (Nat.le_refl _)
  exact ⟨x, w', _, .inl h1, h2, q1, q2⟩
/-- How a handler is true to its operation. -/
def HOk : OpH → Op → Prop
  | .val f, op | .rdr f, op => VHok f op
  | .new f, op => NHok f op
  | .act f, op => AHok f op
  | .call f c, op => op = .call c ∧ c.callee = .value f
  | .vn f g, op => VHok f op ∧ NHok g op
  | .va f g, op => VHok f op ∧ AHok g op
  | .dfr c, op => op = .defer c
  | .rcv, op => ∃ c, op = .call c ∧ c.callee = .builtin .recover
  | .no, _ => True
theorem opH_ok (op : Op) : HOk (opH op) op := by
  cases op with
  | move x => exact (vMove_ok x).1
  | assign x => exact (vMove_ok x).2
  | pick c a b => exact vPick_ok c a b
  | alloc t => exact nAlloc_ok t
  | box t x => exact nBox_ok t x
  | build t ps => exact vBuild_ok t ps
  | buildSlice t n ps => exact nBuildSlice_ok t n ps
  | insert t m k x => exact (aMapUpdate_ok t m k x).2
  | load t x => exact vLoad_ok t x
  | store t a x => exact aStore_ok t a x
  | nilCheck x => exact vNil_ok x
  | binOp op t x y u => exact vBin_ok op t u x y
  | unOp op t x => exact vUn_ok op t x
  | convert s d x => exact ⟨vConv_ok s d x, aConv_ok s d x⟩
  | sliceToArrayPointer t x => exact vArr_ok t x
  | makeInterface t x => exact vIfc_ok t x
  | makeFunc f a b => exact vFunc_ok f a b
  | makeMap t r => exact nMakeMap_ok t r
  | makeSlice t l c => exact nMakeSlice_ok t l c
  | slice t x lo hi mx => exact ⟨vSlice_ok t x lo hi mx, nSliceEnd_ok t x lo hi mx⟩
  | fieldAddr t x k => exact vFieldAddr_ok t x k
  | field t x k => exact vField_ok t x k
  | indexAddr t x i => exact vIndexAddr_ok t x i
  | index t x i => exact vIndex_ok t x i
  | lookup t x k ok => exact vLookup_ok t x k ok
  | mapUpdate t m k x => exact (aMapUpdate_ok t m k x).1
  | mapEntry t m k => exact aMapEntry_ok t m k
  | entryStore t m s x => exact aEntryStore_ok t m s x
  | range t x => exact aRange_ok t x
  | next it b => exact aNext_ok it b
  | entry x => exact vEntry_ok x
  | typeAssert x u t ok => exact vAssert_ok x u t ok
  | extract x i => exact vExtract_ok x i
  | call c =>
    show HOk (hCallee c.callee c) (.call c)
    cases hc : c.callee with
    | value f => exact ⟨rfl, hc⟩
    | invoke r m => trivial
    | builtin b =>
      cases b with
      | append => exact aBuiltin_ok bAppend_ok c hc
      | cap => exact vCap_ok c hc
      | clear => exact aBuiltin_ok bClear_ok c hc
      | copy => exact aBuiltin_ok bCopy_ok c hc
      | delete => exact aBuiltin_ok bDelete_ok c hc
      | len => exact vLen_ok c hc
      | max => exact vMax_ok c hc
      | min => exact vMin_ok c hc
      | recover => exact ⟨c, rfl, hc⟩
      | unsafeSliceData => exact vSliceData_ok c hc
      | unsafeString => exact aBuiltin_ok bString_ok c hc
      | _ => trivial
  | defer c => exact rfl
  | _ => trivial
end Go.Ev
namespace Go.Ev
def CPost (E : Env) (S : AW) (w : World) (v : AV) (S' : AW) : Ending → World → Prop := fun e w' => ∃ x E', e = .returned x ∧ VR E' v x ∧ Sim E' S' w' ∧ Grow S.next E S w E' S' w'
/-- What a call comes to: an activation, or a value at once. -/
def CallR (C : Cx) (f : FuncId) (vs : Array Value) (w : World) (E : Env) (S : AW) (v : AV) (S' : AW) : Prop :=
  ((callFunc f vs).run C.P w = .ok (.enter f vs) w ∧ ∀ n, CallsIn Fence.wide n C.P f vs w (CPost E S w v S')) ∨ (C.ext f ≠ none ∧ ∃ x, (callFunc f vs).run C.P w = .ok (.value x) w ∧ VR E v x ∧ S' = S)
def Post (C : Cx) (E : Env) (S : AW) (w : World) (sz : Nat) (x : Exit) (tm : T AV) (dfs : List ADef) (S' : AW) : Exit → Act → World → Prop :=
  fun e a w' => e = x ∧ ∃ E', Rel C E' S' w' tm dfs a ∧ a.tmps.size = sz ∧ Grow S.next E S w E' S' w'
structure IvOk (C : Cx) (R : Iv) : Prop where
  call : ∀ {f : FuncId} {args : List AV} {S S' : AW} {v : AV} {E : Env} {w : World} {vs : List Value}, R.call f args S = some (v, S') → Sim E S w → LR E args vs → CallR C f vs.toArray w E S v S'
  code : ∀ {c : Code} {rnd : Option Nat} {sz : Nat} {tm tm' : T AV} {dfs dfs' : List ADef} {S S' : AW} {x : Exit} {E : Env} {w : World} {act : Act} {F : Fence} {n : Nat}, R.code c rnd sz tm dfs S = .mk x tm' dfs' S' → RndOk E rnd F → Rel C E S w tm dfs act → act.tmps.size = sz →
    c.wpIn F n C.P (Post C E S w sz x tm' dfs' S') act w
  dcode : ∀ {c : Code} {sz : Nat} {tm tm' : T AV} {dfs dfs' : List ADef} {S S' : AW} {x : Exit} {E : Env} {w : World} {act : Act} {n : Nat} {c0 : Frame} {cs : List Frame}, R.dcode c sz tm dfs S = .mk x tm' dfs' S' → c0.mode = .returning → Rel C E S w tm dfs act → act.tmps.size = sz →
    c.wpSIn Fence.wide n C.P (fun e a cs' w' => cs' = c0 :: cs ∧ Post C E S w sz x tm' dfs' S' e a w') act (c0 :: cs) w
theorem callsIn_round {l n : Nat} {P : Program} {f : FuncId} {args : Array Value} {w : World} {R : Ending → World → Prop} (h : CallsIn Fence.wide n P f args w R) : CallsIn (Fence.wide.inRound l) n P f args w R := h
theorem RndOk.calls {E : Env} {rnd : Option Nat} {F : Fence} (k : RndOk E rnd F) {n : Nat} {P : Program} {f : FuncId} {args : Array Value} {w : World} {R : Ending → World → Prop} (h : CallsIn Fence.wide n P f args w R) : CallsIn F n P f args w R := by
  cases rnd with
  | none => rw [show F = Fence.wide from k]; exact h
  | some l => obtain ⟨b, _, h2⟩ := k; rw [h2]; exact h
theorem RndOk.round {E : Env} {rnd : Option Nat} {F : Fence} (k : RndOk E rnd F) (l : Nat) : F.inRound l = Fence.wide.inRound l := by
  cases rnd with
  | none => rw [show F = Fence.wide from k]
  | some l => obtain ⟨b, _, h2⟩ := k; rw [h2]; rfl
theorem loopAt_some {S : AW} {l : Nat} {L : Lp} : loopAt S l = some L ↔ S.heap.get l = some (.loop L) := by
  simp only [loopAt, ob_some]
  constructor
  · rintro ⟨o, h1, h2⟩
    have : o = .loop L := by cases o <;> simp [dLp] at h2; rw [h2]
    rw [← this]; exact h1
  · intro h; exact ⟨_, h, rfl⟩
theorem setParams_cons (t : Tmp) (ps : List Tmp) (v : AV) (args : List AV) (tm : T AV) : setParams (t :: ps) (v :: args) tm = setParams ps args (tm.set t v) := by
  unfold setParams
  rw [lfold_cons]
  simp only [lget_eq, ldrop_eq, List.getElem?_cons_zero, oel_some, List.drop_succ_cons, List.drop_zero]
theorem setParams_nil (args : List AV) (tm : T AV) : setParams [] args tm = tm := rfl
theorem setParams_TR {E : Env} {sz : Nat} : ∀ {ps : List Tmp} {args : List AV} {vs : List Value} {tm : T AV} {tmps : Array Value}, (∀ t ∈ ps, t < sz) → args.length = ps.length → LR E args vs → TR E sz tm tmps →
    TR E sz (setParams ps args tm) ((ps.zip vs).foldl (fun tmps (p : Tmp × Value) => tmps.setIfInBounds p.1 p.2) tmps)
  | [], args, vs, tm, tmps, _, _, _, h => h
  | t :: ps, [], vs, tm, tmps, _, hl, _, _ => by simp at hl
  | t :: ps, a :: args, [], tm, tmps, _, _, hv, _ => by simp [LR] at hv
  | t :: ps, a :: args, v :: vs, tm, tmps, hp, hl, hv, h => by
    rw [setParams_cons, List.zip_cons_cons, List.foldl_cons]
    refine setParams_TR (fun t ht => hp t (by simp [ht])) (by simpa using hl) ⟨by simpa using hv.1, fun i p q hx hy => hv.2 (i + 1) p q (by simpa using hx) (by simpa using hy)⟩ ?_
    have hpt := putT_TR (act := { tmps := tmps, defers := [] }) (dst := some t) (v := a) (tm' := tm.set t a) (x := v) (by
      simp only [putT, oel_some, tst_some, blt_iff, forceV_eq]
      exact ⟨hp t (by simp), trivial⟩) h (hv.2 0 a v rfl rfl)
    exact hpt
theorem Lp_to (L : Lp) (st : LoopState) (p : Option Code) : L.to st p = .loop { st := st, pending := p, tm := L.tm, sz := L.sz, params := L.params, assign := L.assign, body := L.body, dfr := L.dfr } := rfl
/-- The record of a loop turned. -/
theorem loop_turn {P : Program} {E : Env} {S : AW} {w : World} (hS : Sim E S w) {l : Nat} {L : Lp} (hL : loopAt S l = some L) : ∃ (k : Loc) (r : Loop), E.loc l = some k ∧ w.heap[k.blk]? = some (.loop r) ∧ r.state = L.st ∧ r.pending = L.pending ∧ r.params = L.params.toArray ∧ r.assign = L.assign ∧ r.body = L.body ∧ TR E L.sz L.tm r.tmps ∧
    ∀ (st : LoopState) (p : Option Code) (n : Nat), Sim E (S.put l (L.to st p)) (w.setBlk k.blk (.loop { r with state := st, pending := p })) ∧ Grow n E S w E (S.put l (L.to st p)) (w.setBlk k.blk (.loop { r with state := st, pending := p })) := by
  rw [loopAt_some] at hL
  obtain ⟨k, hk, fn, tmps, kd, hkd, hT, hb⟩ := hS.obj _ _ hL
  have hlt : k.blk < w.heap.size := (Array.getElem?_eq_some_iff.1 hb).1
  exact ⟨k, _, hk, hb, rfl, rfl, rfl, rfl, rfl, hT, fun st p n => hS.mod (o' := L.to st p) (ob := .loop { state := st, pending := p, fn := fn, tmps := tmps, params := L.params.toArray, assign := L.assign, body := L.body, defers := kd.blk }) hL trivial hk (show OR E _ k (.loop { st := st, pending := p, tm := L.tm, sz := L.sz, params := L.params, assign := L.assign, body := L.body, dfr := L.dfr }) from ⟨fn, tmps, kd, hkd, hT, setBlk_same hlt⟩) n⟩
theorem putObj_eq (w : World) (r : Nat) (o : Obj) : w.putObj r o = w.setBlk r o := rfl
theorem stReady_iff {s : LoopState} : stReady s = true ↔ s = .ready := by cases s <;> simp [stReady]
theorem stBusy_iff {s : LoopState} : stBusy s = true ↔ s = .busy := by cases s <;> simp [stBusy]
theorem rsNormal_some {k : T AV → AW → Option (AV × AW)} {r : Rs} {y : AV × AW} (h : rsNormal k r = some y) : ∃ tm S, r = .mk .normal tm [] S ∧ k tm S = some y := by
  cases r with
  | no => simp [rsNormal] at h
  | mk x tm dfs S =>
    cases x <;> simp only [rsNormal, exNormal, oel_none, oel_some, reduceCtorEq] at h
    rw [tst_some, isEmpty_iff] at h
    obtain ⟨rfl, h⟩ := h
    exact ⟨tm, S, rfl, h⟩
theorem rsAny_some {k : Exit → AW → Option (AV × AW)} {r : Rs} {y : AV × AW} (h : rsAny k r = some y) : ∃ x tm dfs S, r = .mk x tm dfs S ∧ k x S = some y := by
  cases r with
  | no => simp [rsAny] at h
  | mk x tm dfs S => exact ⟨x, tm, dfs, S, rfl, h⟩
/-- A round. -/
theorem yieldV_step {C : Cx} {R : Iv} (hR : IvOk C R) {rnd : Option Nat} {F : Fence} {n : Nat} {o : Oper} {c : Call} {f : Operand} {E : Env} {S S' : AW} {w : World} {tm : T AV} {act : Act} {l : Nat} {args : List AV} {v : AV} (hF : RndOk E rnd F) (ho : o.op = .call c) (hc : c.callee = .value f) (hA : At C E S w tm act)
    (hg : VR E (.yld l) (act.eval f)) (hargs : LR E args (c.args.toList.map act.eval)) (h : yieldV R l args S = some (v, S')) : StepOk C F n o E S w act v S' := by
  simp only [yieldV, ob_some, tst_some, stReady_iff, lall_eq, List.all_eq_true, blt_iff, llen_eq] at h
  obtain ⟨L, hL, hst, hlen, hps, h⟩ := h
  have hlen := eq_of_beq hlen
  obtain ⟨tm1, S1, ha, h⟩ := rsNormal_some h
  simp only [ob_some, tst_some, stReady_iff] at h
  obtain ⟨L1, hL1, hst1, h⟩ := h
  obtain ⟨x, tm2, dfs2, S2, hb, h⟩ := rsAny_some h
  simp only [endRoundV, ob_some] at h
  obtain ⟨j, hj, L2, hL2, h⟩ := h
  obtain ⟨k, r, hk, hheap, r1, r2, r3, r4, r5, hT, _⟩ := loop_turn (P := C.P) hA.sim hL
  simp only [VR] at hg
  obtain ⟨k', hk', hg⟩ := hg
  rw [hk] at hk'; cases hk'
  intro next Q hnext
  have hsz : (c.args.map act.eval).size = r.params.size := by
    rw [r3]
    have := hargs.1
    simp only [List.length_map, Array.length_toList] at this
    simp only [Array.size_map, List.size_toArray]
    omega
  have hexec : (execOp act.eval o).run C.P w = .ok (.round k.blk r.fn ((r.params.zip (c.args.map act.eval)).foldl (fun tmps (t, a) => tmps.setIfInBounds t a) r.tmps) r.assign r.body) w := by
    simp only [execOp, ho, resolve, hc, hg, Deferred.ofValue, Sem.run_bind, Sem.run_pure, Result.andThen_ok, invoke, Array.empty_append]
    exact run_yield hheap hsz
  have hnd : ∀ c', o.op ≠ .defer c' := by
    intro c' h; rw [ho] at h; cases h
  refine ⟨fun f _ => hF.fn f, ?_⟩
  rw [Oper.semAt_eq _ _ _ hnd, hexec, Oper.uponIn_round]
  refine ⟨fun hd => absurd hd (by rw [hF.depth]; simp), ?_⟩
  refine roundIn_of_wpIn (hF.fn _) ?_
  rw [hF.round, r4, r5]
  -- the assignments
  have hRnd : RndOk E (some l) (Fence.wide.inRound k.blk) := ⟨k, hk, rfl⟩
  have hzip : (r.params.zip (c.args.map act.eval)).foldl (fun tmps (x : Tmp × Value) => match x with | (t, a) => tmps.setIfInBounds t a) r.tmps = (L.params.zip (c.args.toList.map act.eval)).foldl (fun tmps (p : Tmp × Value) => tmps.setIfInBounds p.1 p.2) r.tmps := by
    rw [r3, ← Array.foldl_toList]
    simp
  rw [hzip]
  have hTR := setParams_TR (ps := L.params) (args := args) (vs := c.args.toList.map act.eval) hps (by omega) hargs hT
  have hrel : Rel C E S w (setParams L.params args L.tm) [] { tmps := (L.params.zip (c.args.toList.map act.eval)).foldl (fun tmps (p : Tmp × Value) => tmps.setIfInBounds p.1 p.2) r.tmps, defers := [] } := { ty := hA.ty, sim := hA.sim, tmp := by rw [hTR.1]; exact hTR, dfr := rfl }
  have h1 := hR.code (n := n - 1) ha hRnd hrel hTR.1
  refine wpIn_mono h1 ?_
  rintro e a1 w1 ⟨rfl, E1, hrel1, hsz1, hG1⟩
  obtain ⟨k1, q, hk1, hheap1, q1, q2, q3, q4, q5, _, hturn1⟩ := loop_turn (P := C.P) hrel1.sim hL1
  have hkk : k1 = k := by have := hG1.le.loc _ _ hk; rw [hk1] at this; cases this; rfl
  subst hkk
  refine ⟨_, run_beginRound hheap1 (by rw [q1, hst1]), ?_⟩
  obtain ⟨g1, g2⟩ := hturn1 .busy L1.pending S.next
  rw [putObj_eq]
  have hq : ({ q with state := .busy } : Loop) = { q with state := .busy, pending := L1.pending } := by rw [← q2]
  rw [hq]
  have hrel2 : Rel C E1 (S1.put l (L1.to .busy L1.pending)) (w1.setBlk k1.blk (.loop { q with state := .busy, pending := L1.pending })) tm1 [] a1 := { ty := hA.ty, sim := g1, tmp := hrel1.tmp, dfr := hrel1.dfr }
  have h2 := hR.code (n := n - 1) hb (hRnd.mono hG1.le) hrel2 hsz1
  refine wpIn_mono h2 ?_
  rintro e a2 w2 ⟨rfl, E2, hrel2', hsz2, hG2⟩
  obtain ⟨k2, p, hk2, hheap2, _, _, _, _, _, _, hturn2⟩ := loop_turn (P := C.P) hrel2'.sim hL2
  have hkk2 : k2 = k1 := by have := hG2.le.loc _ _ (hG1.le.loc _ _ hk); rw [hk2] at this; cases this; rfl
  subst hkk2
  have hfin : ∀ (st : LoopState) (jmp : Option Code) (b : Bool), v = .bool b → S' = S2.put l (L2.to st jmp) → next (act.put o.dst (.bool b)) (w2.setBlk k2.blk (.loop { p with state := st, pending := jmp })) := by
    intro st jmp b hv hS
    obtain ⟨m1, m2⟩ := hturn2 st jmp S.next
    refine hnext (.bool b) _ E2 (by rw [hv]; simp [VR]) (by rw [hS]; exact m1) ?_
    rw [hS]
    exact (hG1.trans (g2.trans (hG2.less (by have := hG1.next; exact this)))).trans m2
  cases e with
  | normal =>
    simp only [jumpOf, Option.some.injEq] at hj
    subst hj
    simp only [oel_none, Option.some.injEq, Prod.mk.injEq] at h
    exact ⟨_, _, run_endRound none hheap2, hfin .ready none true h.1.symm h.2.symm⟩
  | ret =>
    simp only [jumpOf, Option.some.injEq] at hj
    subst hj
    simp only [oel_some, Option.some.injEq, Prod.mk.injEq] at h
    exact ⟨_, _, run_endRound (some .ret) hheap2, hfin .done (some .ret) false h.1.symm h.2.symm⟩
  | exit id =>
    simp only [jumpOf, Option.some.injEq] at hj
    subst hj
    simp only [oel_some, Option.some.injEq, Prod.mk.injEq] at h
    exact ⟨_, _, run_endRound (some (.exit id)) hheap2, hfin .done (some (.exit id)) false h.1.symm h.2.symm⟩
  | _ => simp [jumpOf] at hj
end Go.Ev
namespace Go.Ev
theorem LR.toArr {E : Env} {as : List AV} {vs : Array Value} (h : LR E as vs.toList) : LR E as vs.toList := h
theorem aCall_step {C : Cx} {R : Iv} (hR : IvOk C R) {rnd : Option Nat} {F : Fence} {n : Nat} {o : Oper} {c : Call} {f : Operand} {E : Env} {S S' : AW} {w : World} {tm : T AV} {act : Act} {v : AV} (hF : RndOk E rnd F) (ho : o.op = .call c) (hc : c.callee = .value f) (hA : At C E S w tm act)
    (h : aCall f c C R rnd tm S = some (v, S')) : StepOk C F n o E S w act v S' := by
  simp only [aCall, ob_some] at h
  obtain ⟨g, hg, args, hargs, h⟩ := h
  have hgv := hA.ev hg
  have hav := hA.evs hargs
  cases hq : dFn g with
  | none =>
    simp only [hq, oel_none, ob_some, dYld_some] at h
    obtain ⟨l, rfl, h⟩ := h
    exact yieldV_step hR hF ho hc hA hgv hav h
  | some q =>
    rw [hq, oel_some] at h
    rw [dFn_some] at hq
    subst hq
    simp only [VR] at hgv
    obtain ⟨xs, ys, hgv, hx, hy⟩ := hgv
    have hl : LR E (lapp q.first (lapp args q.cap)) (xs ++ (c.args.toList.map act.eval ++ ys)) := by
      rw [lapp_eq, lapp_eq]
      exact (VRL_iff.1 hx).append (hav.append (VRL_iff.1 hy))
    have hcr := hR.call h hA.sim hl
    have hexec : (execOp act.eval o).run C.P w = (callFunc q.f (xs ++ (c.args.toList.map act.eval ++ ys)).toArray).run C.P w := by
      have e : xs.toArray ++ c.args.map act.eval ++ ys.toArray = (xs ++ (c.args.toList.map act.eval ++ ys)).toArray := by
        apply Array.toList_inj.1; simp
      simp only [execOp, ho, resolve, hc, hgv, Deferred.ofValue, Sem.run_bind, Sem.run_pure, Result.andThen_ok, invoke, e]
    have hnd : ∀ c', o.op ≠ .defer c' := by
      intro c' h; rw [ho] at h; cases h
    intro next Q hnext
    rcases hcr with ⟨he, hcall⟩ | ⟨_, x, hval, hxv, rfl⟩
    · refine ⟨fun f _ => hF.fn f, ?_⟩
      rw [Oper.semAt_eq _ _ _ hnd, hexec, he, Oper.uponIn_enter]
      refine ⟨fun hd => absurd hd (by rw [hF.depth]; simp), ?_⟩
      refine CallsIn.mono (hF.calls (hcall (n - 1))) ?_
      rintro e w' ⟨x, E', rfl, h1, h2, h3⟩
      exact hnext x w' E' h1 h2 h3
    · exact wpIn_value (fun f => hF.fn f) hnd (by rw [hexec]; exact hval) (hnext x w E hxv hA.sim (Grow.refl _ _ _ _))
/-- What one wanted operation does to frame, deferred calls and memory. -/
def RegOk (C : Cx) (F : Fence) (n : Nat) (o : Oper) (E : Env) (S : AW) (w : World) (act : Act) (tm' : T AV) (dfs' : List ADef) (S' : AW) : Prop :=
  ∀ (next : Act → World → Prop) (Q : Exit → Act → World → Prop), (∀ act' w' E', Rel C E' S' w' tm' dfs' act' → act'.tmps.size = act.tmps.size → Grow S.next E S w E' S' w' → next act' w') → o.wpIn F n C.P act w next Q
theorem StepOk.reg {C : Cx} {F : Fence} {n : Nat} {o : Oper} {E : Env} {S S' : AW} {w : World} {act : Act} {tm tm' : T AV} {dfs : List ADef} {v : AV} (h : StepOk C F n o E S w act v S') (hA : Rel C E S w tm dfs act) (hp : putT act.tmps.size o.dst v tm = some tm') : RegOk C F n o E S w act tm' dfs S' := by
  intro next Q k
  refine h next Q fun x w' E' h1 h2 h3 => ?_
  exact k _ _ E' (hA.put h3.le h2 hp h1) (put_size _ _ _) h3
theorem orNo_some {α : Type} {x : Option α} {f : α → Rs} {y : Rs} (h : orNo x f = y) (hy : y ≠ .no) : ∃ a, x = some a ∧ f a = y := by
  cases x with
  | none => exact absurd h.symm hy
  | some a => exact ⟨a, rfl, h⟩
/-- A handler in a region in order. -/
theorem stepH_reg {C : Cx} {R : Iv} (hR : IvOk C R) {rnd : Option Nat} {F : Fence} {n : Nat} {o : Oper} {E : Env} {S : AW} {w : World} {tm : T AV} {dfs : List ADef} {act : Act} {k : K} {y : Rs} (hF : RndOk E rnd F) (hA : Rel C E S w tm dfs act)
    (h : stepH (opH o.op) C R rnd act.tmps.size o.dst tm dfs S k = y) (hy : y ≠ .no) : ∃ tm' dfs' S', k tm' dfs' S' = y ∧ RegOk C F n o E S w act tm' dfs' S' := by
  have hok := opH_ok o.op
  have hAt := hA.toAt
  have pVal : ∀ {f : VH}, VHok f o.op → notDefer o.op → sVal f C R rnd act.tmps.size o.dst tm dfs S k = y → ∃ tm' dfs' S', k tm' dfs' S' = y ∧ RegOk C F n o E S w act tm' dfs' S' := by
    intro f hf hnd h
    obtain ⟨v, hv, h⟩ := orNo_some h hy
    obtain ⟨tm', hp, h⟩ := orNo_some h hy
    exact ⟨tm', dfs, S, h, (((hf rfl hAt hv).does hAt.sim).step (fun f => hF.fn f) hnd).reg hA hp⟩
  have pNew : ∀ {f : NH}, NHok f o.op → notDefer o.op → sNew f C R rnd act.tmps.size o.dst tm dfs S k = y → ∃ tm' dfs' S', k tm' dfs' S' = y ∧ RegOk C F n o E S w act tm' dfs' S' := by
    intro f hf hnd h
    unfold sNew at h
    rw [show (∀ g : Nat → Rs, forceN S.next g = g S.next) from fun g => forceN_eq _ g] at h
    obtain ⟨p, hv, h⟩ := orNo_some h hy
    obtain ⟨tm', hp, h⟩ := orNo_some h hy
    exact ⟨tm', dfs, _, h, ((NHok.does hf rfl hAt (v := p.1) (ob := p.2) hv).step (fun f => hF.fn f) hnd).reg hA hp⟩
  have pAct : ∀ {f : AH}, AHok f o.op → notDefer o.op → sAct f C R rnd act.tmps.size o.dst tm dfs S k = y → ∃ tm' dfs' S', k tm' dfs' S' = y ∧ RegOk C F n o E S w act tm' dfs' S' := by
    intro f hf hnd h
    obtain ⟨p, hv, h⟩ := orNo_some h hy
    obtain ⟨tm', hp, h⟩ := orNo_some h hy
    exact ⟨tm', dfs, _, h, ((hf (R := R) (rnd := rnd) (v := p.1) (S' := p.2) rfl hAt hv).step (fun f => hF.fn f) hnd).reg hA hp⟩
  have hnd : (∀ c, opH o.op ≠ .dfr c) → notDefer o.op := by
    intro h c hc
    rw [hc] at h
    exact h c rfl
  cases ho : opH o.op with
  | val f => rw [ho] at h hok; exact pVal hok (hnd (by rw [ho]; simp)) h
  | rdr f => rw [ho] at h hok; exact pVal hok (hnd (by rw [ho]; simp)) h
  | new f => rw [ho] at h hok; exact pNew hok (hnd (by rw [ho]; simp)) h
  | act f => rw [ho] at h hok; exact pAct hok (hnd (by rw [ho]; simp)) h
  | call f c =>
    rw [ho] at h hok
    obtain ⟨p, hv, h⟩ := orNo_some (show sAct (aCall f c) C R rnd act.tmps.size o.dst tm dfs S k = y from h) hy
    obtain ⟨tm', hp, h⟩ := orNo_some h hy
    exact ⟨tm', dfs, _, h, (aCall_step (v := p.1) (S' := p.2) hR hF hok.1 hok.2 hAt hv).reg hA hp⟩
  | vn f g =>
    rw [ho] at h hok
    have h : oel (sNew g C R rnd act.tmps.size o.dst tm dfs S k) (f C tm S) (fun v => orNo (putT act.tmps.size o.dst v tm) fun tm' => k tm' dfs S) = y := h
    cases hv : f C tm S with
    | none => rw [hv, oel_none] at h; exact pNew hok.2 (hnd (by rw [ho]; simp)) h
    | some v =>
      rw [hv, oel_some] at h
      exact pVal hok.1 (hnd (by rw [ho]; simp)) (show orNo (f C tm S) _ = y by rw [hv]; exact h)
  | va f g =>
    rw [ho] at h hok
    have h : oel (sAct g C R rnd act.tmps.size o.dst tm dfs S k) (f C tm S) (fun v => orNo (putT act.tmps.size o.dst v tm) fun tm' => k tm' dfs S) = y := h
    cases hv : f C tm S with
    | none => rw [hv, oel_none] at h; exact pAct hok.2 (hnd (by rw [ho]; simp)) h
    | some v =>
      rw [hv, oel_some] at h
      exact pVal hok.1 (hnd (by rw [ho]; simp)) (show orNo (f C tm S) _ = y by rw [hv]; exact h)
  | dfr c =>
    rw [ho] at h hok
    obtain ⟨dfs', hd, h⟩ := orNo_some (show sDfr c C R rnd act.tmps.size o.dst tm dfs S k = y from h) hy
    obtain ⟨tm', hp, h⟩ := orNo_some h hy
    refine ⟨tm', dfs', S, h, ?_⟩
    simp only [deferV, tst_some, ob_some, notB_eq, Bool.not_eq_true', isSomeB_eq, Option.some.injEq] at hd
    obtain ⟨hrnd, f, hf, g, hg, q, hq, args, hargs, rfl⟩ := hd
    have hrnd : rnd = none := by cases rnd <;> simp_all
    subst hrnd
    have hF' : F = Fence.wide := hF
    subst hF'
    have hcf : c.callee = .value f := by cases hcc : c.callee <;> simp_all [fnOfCallee]
    rw [dFn_some] at hq
    subst hq
    have hgv := hAt.ev hg
    have hav := hAt.evs hargs
    simp only [VR] at hgv
    obtain ⟨xs, ys, hgv, hx, hyy⟩ := hgv
    intro next Q hnext
    refine ⟨fun f _ => trivial, ?_⟩
    have hexec : (Oper.semAt Fence.wide.round act.eval o).run C.P w = .ok (.defer { target := .fn (.func q.f) ys.toArray, args := (xs ++ c.args.toList.map act.eval).toArray }) w := by
      show (execOp act.eval o).run C.P w = _
      have e : xs.toArray ++ c.args.map act.eval = (xs ++ c.args.toList.map act.eval).toArray := by
        apply Array.toList_inj.1; simp
      simp only [execOp, show o.op = .defer c from hok, resolve, hcf, hgv, Deferred.ofValue, Sem.run_bind, Sem.run_pure, Result.andThen_ok, e]
    rw [hexec, Oper.uponIn_defer]
    refine hnext _ w E ?_ (put_size _ _ _) (Grow.refl _ _ _ _)
    have hrel : Rel C E S w tm (.call q.f q.cap (lapp q.first args) :: dfs) { act with defers := { target := .fn (.func q.f) ys.toArray, args := (xs ++ c.args.toList.map act.eval).toArray } :: act.defers } :=
      { ty := hAt.ty, sim := hAt.sim, tmp := hAt.tmp, dfr := ⟨_, _, rfl, ⟨ys, _, rfl, VRL_iff.1 hyy, by rw [lapp_eq]; exact (VRL_iff.1 hx).append hav⟩, hA.dfr⟩ }
    exact hrel.put (Le.refl E) hAt.sim hp (VR_undef E)
  | rcv => rw [ho] at h; exact absurd h.symm hy
  | no => rw [ho] at h; exact absurd h.symm hy
theorem wanted_eq {o : Oper} {ops : List Oper} {tm : T AV} {act : Act} {b : Bool} {E : Env} {sz : Nat} (h : wantedV ops tm o = some b) (ht : TR E sz tm act.tmps) : Region.wanted o (yielded ops.toArray act.tmps) = b := by
  unfold wantedV at h
  unfold Region.wanted
  cases hg : o.guard with
  | none => rw [hg, oel_none] at h; cases h; rfl
  | some g =>
    rw [hg, oel_some] at h
    exact guardV_sound h ht
end Go.Ev
namespace Go.Ev
section
variable {F : Fence} {n : Nat} {P : Program} {Q : Exit → Act → World → Prop} {a : Act} {w : World}
theorem stepR_scope {b : Frame} {k : List Item} {cs : List Frame} {c : Code} : step P (lone (b.atR a (.code (.scope c) :: k)) cs w) = .next (lone (b.atR a (.code c :: .inScope c :: k)) cs w) :=
  step_lone_go (by simp [stepG, stepG.exec, Frame.atR])
theorem stepR_inScope {b : Frame} {k : List Item} {cs : List Frame} {c : Code} : step P (lone (b.atR a (.inScope c :: k)) cs w) = .next (lone (b.atR a k) cs w) :=
  step_lone_go (by simp [stepG, stepG.exec, Frame.atR])
theorem wpIn_scope {c : Code} (h : c.wpIn F n P (Exit.noGoto Q) a w) : (Code.scope c).wpIn F n P Q a w := by
  intro b k cs hro hb hr
  have h0 : (lone (b.atR a (.code (.scope c) :: k)) cs w).fenced P F := fenced_calm hb hr rfl
  obtain ⟨e, a₁, w₁, hq, harr⟩ := h b (.inScope c :: k) cs hro hb hr
  cases e with
  | normal => exact ⟨.normal, a₁, w₁, hq, .head h0 stepR_scope (StepsIn.trans harr (.one (fenced_calm hb hr rfl) stepR_inScope))⟩
  | exit id =>
    have hx : exitTo id (.inScope c :: k) = exitTo id k := by simp [exitTo]
    exact ⟨.exit id, a₁, w₁, hq, fun k' hk => .head h0 stepR_scope (harr.1 k' (by rw [hx]; exact hk)),
      fun hr' hk => let ⟨k₁, h1, h2⟩ := harr.2 hr' (by rw [hx]; exact hk); ⟨k₁, h1, .head h0 stepR_scope h2⟩⟩
  | goto l => exact hq.elim
  | ret => exact ⟨_, a₁, w₁, hq, .of_steps (.one h0 stepR_scope) harr⟩
  | panic ch => exact ⟨_, a₁, w₁, hq, .of_steps (.one h0 stepR_scope) harr⟩
  | outgrown => exact ⟨_, a₁, w₁, hq, .of_steps (.one h0 stepR_scope) harr⟩
end
theorem Post.trans {C : Cx} {E E1 : Env} {S S1 : AW} {w w1 : World} {sz : Nat} {x : Exit} {tm : T AV} {dfs : List ADef} {S' : AW} {e : Exit} {a : Act} {w' : World} (hG : Grow S.next E S w E1 S1 w1) (h : Post C E1 S1 w1 sz x tm dfs S' e a w') : Post C E S w sz x tm dfs S' e a w' := by
  obtain ⟨rfl, E', h1, h2, h3⟩ := h
  exact ⟨rfl, E', h1, h2, hG.trans (h3.less hG.next)⟩
/-- Regions in order. -/
theorem stepsK_nil (f : Oper → T AV → List ADef → AW → K → Rs) : stepsK f [] = doneK := rfl
theorem stepsK_cons (f : Oper → T AV → List ADef → AW → K → Rs) (o : Oper) (l : List Oper) (tm : T AV) (dfs : List ADef) (S : AW) : stepsK f (o :: l) tm dfs S = f o tm dfs S (stepsK f l) := rfl
theorem regS_ok {C : Cx} {R : Iv} (hR : IvOk C R) {rnd : Option Nat} {F : Fence} {n : Nat} {ops : List Oper} {E0 : Env} {S0 : AW} {w0 : World} {sz : Nat} {x : Exit} {tm' : T AV} {dfs' : List ADef} {S' : AW} :
    ∀ (l : List Oper) {E : Env} {S : AW} {w : World} {tm : T AV} {dfs : List ADef} {act : Act}, stepsK (stepOp stepH C R rnd sz ops) l tm dfs S = .mk x tm' dfs' S' → RndOk E rnd F → Rel C E S w tm dfs act → act.tmps.size = sz → Grow S0.next E0 S0 w0 E S w →
      wpListIn F n C.P ops.toArray (Post C E0 S0 w0 sz x tm' dfs' S') l act w
  | [], E, S, w, tm, dfs, act, h, hF, hA, hsz, hG => by
    rw [stepsK_nil] at h
    cases h
    exact ⟨rfl, E, hA, hsz, hG⟩
  | o :: l, E, S, w, tm, dfs, act, h, hF, hA, hsz, hG => by
    rw [stepsK_cons] at h
    subst hsz
    obtain ⟨b, hw, h⟩ := orNo_some (show orNo (wantedV ops tm o) _ = _ from h) (by simp)
    have hwant := wanted_eq hw hA.tmp
    cases b with
    | true =>
      rw [iteB_true] at h
      obtain ⟨tm1, dfs1, S1, hk, hreg⟩ := stepH_reg (n := n) hR hF hA h (by simp)
      simp only [wpListIn, hwant, if_true]
      refine hreg _ _ fun act' w' E' hrel hsz' hG' => ?_
      exact regS_ok hR l hk (hF.mono hG'.le) hrel hsz' (hG.trans (hG'.less hG.next))
    | false =>
      rw [iteB_false] at h
      obtain ⟨tm1, hp, h⟩ := orNo_some h (by simp)
      simp only [wpListIn, hwant, Bool.false_eq_true, if_false]
      refine ⟨fun f _ => hF.fn f, ?_⟩
      exact regS_ok hR l h hF (hA.put (Le.refl E) hA.sim hp (VR_undef E)) (put_size _ _ _) hG
/-- What is asked of a region whose order is drawn. -/
def DrawOk (C : Cx) (R : Iv) : Prop := ∀ {rnd : Option Nat} {F : Fence} {n id : Nat} {ops : Array Oper} {E : Env} {S : AW} {w : World} {sz : Nat} {x : Exit} {tm tm' : T AV} {dfs dfs' : List ADef} {S' : AW} {act : Act}, regD C R rnd sz ops.toList tm dfs S = .mk x tm' dfs' S' → RndOk E rnd F → Rel C E S w tm dfs act → act.tmps.size = sz →
  (Code.region id ops true).wpIn F n C.P (Post C E S w sz x tm' dfs' S') act w
def CodeOk (C : Cx) (k : Option Nat → Nat → K) (c : Code) : Prop := ∀ {rnd : Option Nat} {F : Fence} {n : Nat} {E : Env} {S : AW} {w : World} {sz : Nat} {x : Exit} {tm tm' : T AV} {dfs dfs' : List ADef} {S' : AW} {act : Act}, k rnd sz tm dfs S = .mk x tm' dfs' S' → RndOk E rnd F → Rel C E S w tm dfs act → act.tmps.size = sz →
  c.wpIn F n C.P (Post C E S w sz x tm' dfs' S') act w
theorem rsThen_some {k : K} {r : Rs} {x : Exit} {tm : T AV} {dfs : List ADef} {S : AW} (h : rsThen k r = .mk x tm dfs S) : (∃ tm1 dfs1 S1, r = .mk .normal tm1 dfs1 S1 ∧ k tm1 dfs1 S1 = .mk x tm dfs S) ∨ (r = .mk x tm dfs S ∧ x ≠ .normal) := by
  cases r with
  | no => simp [rsThen] at h
  | mk x1 tm1 dfs1 S1 =>
    cases x1 with
    | normal => exact .inl ⟨tm1, dfs1, S1, rfl, h⟩
    | _ => right; cases h; exact ⟨rfl, by simp⟩
theorem Exit.then_other {K : Act → World → Prop} {Q : Exit → Act → World → Prop} {e : Exit} {a : Act} {w : World} (h : Q e a w) (hne : e ≠ .normal) : Exit.then K Q e a w := by
  cases e <;> first | exact h | exact absurd rfl hne
theorem seq_ok {C : Cx} {kx ky : Option Nat → Nat → K} {cx cy : Code} (hx : CodeOk C kx cx) (hy : CodeOk C ky cy) {rnd : Option Nat} {F : Fence} {n : Nat} {E : Env} {S : AW} {w : World} {sz : Nat} {x : Exit} {tm tm' : T AV} {dfs dfs' : List ADef} {S' : AW} {act : Act} (h : rsThen (ky rnd sz) (kx rnd sz tm dfs S) = .mk x tm' dfs' S') (hF : RndOk E rnd F) (hA : Rel C E S w tm dfs act) (hsz : act.tmps.size = sz) :
    cx.wpIn F n C.P (Exit.then (cy.wpIn F n C.P (Post C E S w sz x tm' dfs' S')) (Post C E S w sz x tm' dfs' S')) act w := by
  rcases rsThen_some h with ⟨tm1, dfs1, S1, hr, hk⟩ | ⟨hr, hne⟩
  · refine wpIn_mono (hx hr hF hA hsz) ?_
    rintro e a1 w1 ⟨rfl, E1, hA1, hsz1, hG1⟩
    exact wpIn_mono (hy hk (hF.mono hG1.le) hA1 hsz1) fun e a w h => h.trans hG1
  · refine wpIn_mono (hx hr hF hA hsz) ?_
    rintro e a1 w1 ⟨rfl, hp⟩
    exact Exit.then_other ⟨rfl, hp⟩ hne
theorem loopK_succ (b : K) (n : Nat) (tm : T AV) (dfs : List ADef) (S : AW) : loopK b (n + 1) tm dfs S = rsThen (loopK b n) (b tm dfs S) := rfl
theorem loop_ok {C : Cx} {k : Option Nat → Nat → K} {c : Code} (hk : CodeOk C k c) {rnd : Option Nat} {F : Fence} {n : Nat} {sz : Nat} {x : Exit} {tm' : T AV} {dfs' : List ADef} {S' : AW} {E0 : Env} {S0 : AW} {w0 : World} :
    ∀ (m : Nat) {E : Env} {S : AW} {w : World} {tm : T AV} {dfs : List ADef} {act : Act}, loopK (k rnd sz) m tm dfs S = .mk x tm' dfs' S' → RndOk E rnd F → Rel C E S w tm dfs act → act.tmps.size = sz → Grow S0.next E0 S0 w0 E S w →
      Code.roundsIn F n C.P c (Post C E0 S0 w0 sz x tm' dfs' S') m act w
  | 0, E, S, w, tm, dfs, act, h, _, _, _, _ => by cases h
  | m + 1, E, S, w, tm, dfs, act, h, hF, hA, hsz, hG => by
    rw [loopK_succ] at h
    rw [roundsIn_succ]
    rcases rsThen_some h with ⟨tm1, dfs1, S1, hr, hk'⟩ | ⟨hr, hne⟩
    · refine wpIn_mono (hk hr hF hA hsz) ?_
      rintro e a1 w1 ⟨rfl, E1, hA1, hsz1, hG1⟩
      exact loop_ok hk m hk' (hF.mono hG1.le) hA1 hsz1 (hG.trans (hG1.less hG.next))
    · refine wpIn_mono (hk hr hF hA hsz) ?_
      rintro e a1 w1 ⟨rfl, hp⟩
      exact Exit.then_other (Post.trans hG ⟨rfl, hp⟩) hne
theorem rsBlock_some {id : Nat} {r : Rs} {x : Exit} {tm : T AV} {dfs : List ADef} {S : AW} (h : rsBlock id r = .mk x tm dfs S) : (r = .mk (.exit id) tm dfs S ∧ x = .normal) ∨ (r = .mk x tm dfs S ∧ x ≠ .exit id) := by
  cases r with
  | no => simp [rsBlock] at h
  | mk x1 tm1 dfs1 S1 =>
    cases x1 with
    | exit i =>
      have h : iteB (Nat.beq i id) (Rs.mk .normal tm1 dfs1 S1) (Rs.mk (.exit i) tm1 dfs1 S1) = Rs.mk x tm dfs S := h
      rw [iteB_eq] at h
      by_cases e : i = id
      · rw [if_pos (by rw [e]; exact beq_self id)] at h
        cases h; subst e; exact .inl ⟨rfl, rfl⟩
      · rw [if_neg (by rw [beq_of_ne e]; simp)] at h
        cases h; right; exact ⟨rfl, by simpa using e⟩
    | _ => right; cases h; exact ⟨rfl, by simp⟩
theorem sized {E : Env} {S : AW} {w : World} (hS : Sim E S w) {ob : AObj} {oo : Obj} {l : Loc} (hb : l.blk = w.heap.size) (h : OR (E.put S.next l) (w.alloc oo) l ob) :
    Sim (E.put S.next l) (S.add ob) (w.alloc oo) ∧ Grow S.next E S w (E.put S.next l) (S.add ob) (w.alloc oo) := by
  have hE := hS.new S.next (Nat.le_refl _)
  have hF : Fresh E w S.next ob l (w.alloc oo) := ⟨rfl, rfl, rfl, by rw [alloc_size]; exact Nat.le_succ _, fun b hb => alloc_old w oo hb, h, fun _ => by rw [hb]; exact Nat.le_refl _⟩
  exact hF.sim hS hE (n := S.next + 1) (Nat.le_succ _) (Nat.lt_succ_self _) (k := S.next) (Nat.le_refl _)
/-- A loop over a function is entered. -/
theorem enterLoop_ok {C : Cx} {rnd : Option Nat} {F : Fence} {E : Env} {S : AW} {w : World} {tm : T AV} {dfs : List ADef} {act : Act} {ps : Array Tmp} {assign body : Code} {E3 : Ent3} (hF : RndOk E rnd F) (hA : Rel C E S w tm dfs act)
    (h : enterLoopV rnd ps assign body tm act.tmps.size dfs S = some E3) (fn : FuncId) : ∃ (k : Loc) (mark : List Deferred) (w1 : World) (E1 : Env), (Instr.enterLoop fn act.tmps ps assign body F.round).run C.P w = .ok (k.blk, mark) w1 ∧ E1.loc E3.l = some k ∧ Sim E1 E3.S w1 ∧ DR E1 E3.dfs (mark ++ act.defers) ∧ Grow S.next E S w E1 E3.S w1 := by
  unfold enterLoopV at h
  cases rnd with
  | none =>
    simp only [oel_none, Option.some.injEq] at h
    subst h
    have hF' : F = Fence.wide := hF
    subst hF'
    have hE := hA.sim.new S.next (Nat.le_refl _)
    obtain ⟨a1, a2⟩ := sized (l := ⟨w.heap.size, 0, 0⟩) (ob := .dfr false) (oo := .deferred (some [])) hA.sim rfl (alloc_get w _)
    have hE2 := a1.new (S.next + 1) (Nat.le_refl _)
    have hk1 : ((E.put S.next ⟨w.heap.size, 0, 0⟩).put (S.next + 1) ⟨w.heap.size + 1, 0, 0⟩).loc S.next = some ⟨w.heap.size, 0, 0⟩ := (Env.put_le hE2).loc _ _ (Env.put_same E S.next _)
    obtain ⟨b1, b2⟩ := sized (S := S.add (.dfr false)) (l := ⟨w.heap.size + 1, 0, 0⟩) (ob := newLoop ps assign body tm act.tmps.size S.next)
      (oo := .loop { state := .ready, pending := none, fn := fn, tmps := act.tmps, params := ps, assign := assign, body := body, defers := w.heap.size }) a1 (by rw [alloc_size])
      ⟨fn, act.tmps, ⟨w.heap.size, 0, 0⟩, hk1, hA.tmp.mono (a2.le.trans (Env.put_le hE2)), by
        have := alloc_get (w.alloc (.deferred (some []))) (.loop { state := .ready, pending := none, fn := fn, tmps := act.tmps, params := ps, assign := assign, body := body, defers := w.heap.size })
        rw [alloc_size] at this
        simpa using this⟩
    refine ⟨⟨w.heap.size + 1, 0, 0⟩, [{ target := .collected w.heap.size, args := #[] }], _, _, ?_, Env.put_same _ _ _, b1, ?_, a2.trans (b2.less (Nat.le_succ _))⟩
    · exact run_enterLoop_outer fn act.tmps ps assign body
    · exact ⟨_, _, rfl, ⟨_, hk1, rfl⟩, hA.dfr.mono (a2.le.trans b2.le)⟩
  | some l0 =>
    simp only [oel_some, ob_some, Option.some.injEq] at h
    obtain ⟨L, hL, rfl⟩ := h
    obtain ⟨k0, hk0, rfl⟩ := hF
    rw [loopAt_some] at hL
    obtain ⟨k0', hk0', fn0, tmps0, kd, hkd, hT0, hb0⟩ := hA.sim.obj _ _ hL
    rw [hk0] at hk0'; cases hk0'
    have hE := hA.sim.new S.next (Nat.le_refl _)
    obtain ⟨b1, b2⟩ := sized (l := ⟨w.heap.size, 0, 0⟩) (ob := newLoop ps assign body tm act.tmps.size L.dfr)
      (oo := .loop { state := .ready, pending := none, fn := fn, tmps := act.tmps, params := ps, assign := assign, body := body, defers := kd.blk }) hA.sim rfl
      ⟨fn, act.tmps, kd, (Env.put_le hE).loc _ _ hkd, hA.tmp.mono (Env.put_le hE), by
        have := alloc_get w (.loop { state := .ready, pending := none, fn := fn, tmps := act.tmps, params := ps, assign := assign, body := body, defers := kd.blk })
        simpa using this⟩
    refine ⟨⟨w.heap.size, 0, 0⟩, [], _, _, ?_, Env.put_same _ _ _, b1, hA.dfr.mono (Env.put_le hE), b2⟩
    show (Instr.enterLoop fn act.tmps ps assign body (some k0.blk)).run C.P w = _
    unfold Instr.enterLoop
    simp only [Sem.run_bind, run_getLoop hb0, Result.andThen_ok, Sem.run_pure, run_newObj_alloc]
end Go.Ev
namespace Go.Ev
theorem range_ok {C : Cx} {R : Iv} (hR : IvOk C R) {N : Nat} {g : Operand} {ps : Array Tmp} {assign body : Code} : CodeOk C (rangeK g ps assign body C R N) (.rangeFunc g ps assign body) := by
  intro rnd F n E S w sz x tm tm' dfs dfs' S' act h0 hF hA hsz
  subst hsz
  obtain ⟨v, hv, h1⟩ := orNo_some (show orNo (aev tm g) _ = _ from h0) (by simp)
  obtain ⟨q, hq, h2⟩ := orNo_some h1 (by simp)
  obtain ⟨E3, hE3, h3⟩ := orNo_some h2 (by simp)
  obtain ⟨p, hp, h4⟩ := orNo_some h3 (by simp)
  obtain ⟨L, hL, h5⟩ := orNo_some h4 (by simp)
  clear h0 h1 h2 h3 h4
  simp only [ob_some, tst_some, notB_eq, Bool.not_eq_true', isSomeB_eq, Option.some.injEq] at hq
  obtain ⟨q', hq', hext, rfl⟩ := hq
  rw [dFn_some] at hq'
  subst hq'
  have hgv := hA.ev hv
  simp only [VR] at hgv
  obtain ⟨xs, ys, hgv, hx, hy⟩ := hgv
  refine wpIn_rangeFunc fun fn _ => ?_
  obtain ⟨k, mark, w1, E1, he1, hk, hS1, hD1, hG1⟩ := enterLoop_ok hF hA hE3 fn
  have hl : LR E1 (lapp q'.first (.yld E3.l :: q'.cap)) (xs ++ (Value.func (.yield k.blk) #[] #[] :: ys)) := by
    rw [lapp_eq]
    exact ((VRL_iff.1 hx).mono hG1.le).append (LR.cons (by simp only [VR]; exact ⟨k, hk, rfl⟩) ((VRL_iff.1 hy).mono hG1.le))
  have hcr := hR.call (v := p.1) (S' := p.2) hp hS1 hl
  rcases hcr with ⟨he, hcall⟩ | ⟨hne, _⟩
  · refine ⟨k.blk, mark, w1, { target := .fn (.func q'.f) ys.toArray, args := xs.toArray ++ #[Value.func (.yield k.blk) #[] #[]] }, w1, q'.f, (xs ++ (Value.func (.yield k.blk) #[] #[] :: ys)).toArray, w1, he1, ?_, fun f _ => hF.fn f, ?_, fun hd => absurd hd (by rw [hF.depth]; simp), ?_⟩
    · simp only [rangeCall, resolve, hgv, Deferred.ofValue]
      simp [Act.eval]
    · have e : xs.toArray ++ #[Value.func (.yield k.blk) #[] #[]] ++ ys.toArray = (xs ++ (Value.func (.yield k.blk) #[] #[] :: ys)).toArray := by
        apply Array.toList_inj.1; simp
      simp only [invoke, e]
      exact he
    · refine CallsIn.mono (hF.calls (hcall (n - 1))) ?_
      rintro e w3 ⟨y, E4, rfl, hy4, hS4, hG4⟩
      have h : iteB (stBusy L.st) Rs.no (oel (.mk .normal tm E3.dfs (p.2.put E3.l (L.to .exhausted L.pending))) L.pending fun c => R.code c rnd act.tmps.size tm E3.dfs (p.2.put E3.l (L.to .exhausted L.pending))) = .mk x tm' dfs' S' := h5
      clear h5
      have hnb : stBusy L.st = false := by
        cases hb : stBusy L.st with
        | true => rw [hb] at h; cases h
        | false => rfl
      rw [hnb, iteB_false] at h
      obtain ⟨k', r, hk', hheap, r1, r2, _, _, _, _, hturn⟩ := loop_turn (P := C.P) hS4 hL
      have hkk : k' = k := by have := hG4.le.loc _ _ hk; rw [hk'] at this; cases this; rfl
      subst hkk
      have hst : r.state ≠ .busy := by
        rw [r1]; intro hb; rw [hb] at hnb; cases hnb
      obtain ⟨g1, g2⟩ := hturn .exhausted L.pending S.next
      have hGall : Grow S.next E S w E4 (p.2.put E3.l (L.to .exhausted L.pending)) (w3.setBlk k'.blk (.loop { r with state := .exhausted, pending := L.pending })) := (hG1.trans (hG4.less hG1.next)).trans g2
      have hrel : Rel C E4 (p.2.put E3.l (L.to .exhausted L.pending)) (w3.setBlk k'.blk (.loop { r with state := .exhausted, pending := L.pending })) tm E3.dfs { act with defers := mark ++ act.defers } :=
        { ty := hA.ty, sim := g1, tmp := hA.tmp.mono hGall.le, dfr := hD1.mono hG4.le }
      refine ⟨r.pending, _, run_endLoop hheap hst, ?_⟩
      have hw : w3.putObj k'.blk (.loop { r with state := .exhausted }) = w3.setBlk k'.blk (.loop { r with state := .exhausted, pending := L.pending }) := by
        rw [putObj_eq, ← r2]
      rw [hw, r2]
      cases hpd : L.pending with
      | none =>
        rw [hpd, oel_none] at h
        cases h
        rw [hpd] at hrel hGall
        exact ⟨rfl, E4, hrel, rfl, hGall⟩
      | some c =>
        rw [hpd, oel_some] at h
        rw [hpd] at hrel hGall
        exact wpIn_mono (hR.code h (hF.mono hGall.le) hrel rfl) fun e a w hp => hp.trans hGall
  · rw [Option.isSome_eq_false_iff, Option.isNone_iff_eq_none] at hext
    exact absurd hext hne
theorem rsScope_some {r : Rs} {x : Exit} {tm : T AV} {dfs : List ADef} {S : AW} (h : rsScope r = .mk x tm dfs S) : r = .mk x tm dfs S ∧ ∀ l, x ≠ .goto l := by
  cases r with
  | no => simp [rsScope] at h
  | mk x1 tm1 dfs1 S1 =>
    cases x1 with
    | goto l => cases h
    | _ => cases h; exact ⟨rfl, by simp⟩
theorem codeK_ok {C : Cx} {R : Iv} (hR : IvOk C R) (hD : DrawOk C R) (N : Nat) : ∀ c : Code, CodeOk C (codeK c C R N) c := by
  intro c
  induction c with
  | skip =>
    intro rnd F n E S w sz x tm tm' dfs dfs' S' act h hF hA hsz
    cases h
    exact wpIn_skip ⟨rfl, E, hA, hsz, Grow.refl _ _ _ _⟩
  | region id ops draw =>
    intro rnd F n E S w sz x tm tm' dfs dfs' S' act h hF hA hsz
    cases draw with
    | true => exact hD (show regD C R rnd sz ops.toList tm dfs S = _ from h) hF hA hsz
    | false =>
      have := regS_ok (n := n) hR ops.toList (show stepsK (stepOp stepH C R rnd sz ops.toList) ops.toList tm dfs S = _ from h) hF hA hsz (Grow.refl S.next E S w)
      exact wpIn_region_list (by simpa using this)
  | seq a b iha ihb =>
    intro rnd F n E S w sz x tm tm' dfs dfs' S' act h hF hA hsz
    exact wpIn_seq (seq_ok iha ihb (show rsThen (codeK b C R N rnd sz) (codeK a C R N rnd sz tm dfs S) = _ from h) hF hA hsz)
  | cond o a b iha ihb =>
    intro rnd F n E S w sz x tm tm' dfs dfs' S' act h hF hA hsz
    obtain ⟨v, hv, h⟩ := orNo_some (show orNo (aev tm o) _ = _ from h) (by simp)
    obtain ⟨t, ht, h⟩ := orNo_some h (by simp)
    rw [dBool_some] at ht
    subst ht
    have hc := hA.ev hv
    simp only [VR] at hc
    cases t with
    | true => exact wpIn_cond_true hc (iha h hF hA hsz)
    | false => exact wpIn_cond_false hc (ihb h hF hA hsz)
  | block id a ih =>
    intro rnd F n E S w sz x tm tm' dfs dfs' S' act h hF hA hsz
    rcases rsBlock_some (show rsBlock id (codeK a C R N rnd sz tm dfs S) = _ from h) with ⟨hr, rfl⟩ | ⟨hr, hne⟩
    · refine wpIn_block (wpIn_mono (ih hr hF hA hsz) ?_)
      rintro e a1 w1 ⟨rfl, hp⟩
      simp only [Exit.inBlock, if_true]
      exact ⟨rfl, hp⟩
    · refine wpIn_block (wpIn_mono (ih hr hF hA hsz) ?_)
      rintro e a1 w1 ⟨rfl, hp⟩
      cases e with
      | exit i =>
        have : i ≠ id := fun h => hne (by rw [h])
        simp only [Exit.inBlock, this, if_false]
        exact ⟨rfl, hp⟩
      | _ => exact ⟨rfl, hp⟩
  | loop a ih =>
    intro rnd F n E S w sz x tm tm' dfs dfs' S' act h hF hA hsz
    exact wpIn_loop_rounds N (loop_ok ih N (show loopK (codeK a C R N rnd sz) N tm dfs S = _ from h) hF hA hsz (Grow.refl _ _ _ _))
  | rangeFunc g ps assign body _ _ => exact range_ok (N := N) hR
  | exit id =>
    intro rnd F n E S w sz x tm tm' dfs dfs' S' act h hF hA hsz
    cases h
    exact wpIn_exit ⟨rfl, E, hA, hsz, Grow.refl _ _ _ _⟩
  | scope a ih =>
    intro rnd F n E S w sz x tm tm' dfs dfs' S' act h hF hA hsz
    obtain ⟨hr, hng⟩ := rsScope_some (show rsScope (codeK a C R N rnd sz tm dfs S) = _ from h)
    refine wpIn_scope (wpIn_mono (ih hr hF hA hsz) ?_)
    rintro e a1 w1 ⟨rfl, hp⟩
    cases e with
    | goto l => exact absurd rfl (hng l)
    | _ => exact ⟨rfl, hp⟩
  | label l =>
    intro rnd F n E S w sz x tm tm' dfs dfs' S' act h hF hA hsz
    cases h
    exact wpIn_label ⟨rfl, E, hA, hsz, Grow.refl _ _ _ _⟩
  | goto l =>
    intro rnd F n E S w sz x tm tm' dfs dfs' S' act h hF hA hsz
    cases h
  | ret =>
    intro rnd F n E S w sz x tm tm' dfs dfs' S' act h hF hA hsz
    cases h
    exact wpIn_ret ⟨rfl, E, hA, hsz, Grow.refl _ _ _ _⟩
  | refuse r =>
    intro rnd F n E S w sz x tm tm' dfs dfs' S' act h hF hA hsz
    cases h
end Go.Ev
namespace Go.Ev
theorem argTm_TR {E : Env} {args : List AV} {vs : List Value} (h : LR E args vs) (m : Nat) : TR E (vs.toArray ++ Array.replicate (m - vs.toArray.size) undef).size (argTm args) (vs.toArray ++ Array.replicate (m - vs.toArray.size) undef) := by
  refine ⟨rfl, ?_⟩
  have key : ∀ (as : List AV) (k : Nat) (t0 : T AV) (t : Nat) (a : AV), (lfold (fun (s : T AV × Nat) v => (s.1.set s.2 v, Nat.succ s.2)) as (t0, k)).1.get t = some a → (k ≤ t ∧ as[t - k]? = some a) ∨ t0.get t = some a := by
    intro as
    induction as with
    | nil => intro k t0 t a h; exact .inr h
    | cons x as ih =>
      intro k t0 t a h
      rw [lfold_cons] at h
      rcases ih (k + 1) (t0.set k x) t a h with ⟨h1, h2⟩ | h1
      · left
        refine ⟨by omega, ?_⟩
        have : t - k = (t - (k + 1)) + 1 := by omega
        rw [this]; simpa using h2
      · rw [T.get_set] at h1
        by_cases e : t = k
        · rw [if_pos e] at h1
          left; subst e; exact ⟨Nat.le_refl _, by simpa using h1⟩
        · rw [if_neg e] at h1
          exact .inr h1
  intro t a ha
  rcases key args 0 .e t a ha with ⟨_, h1⟩ | h1
  · rw [Nat.sub_zero] at h1
    obtain ⟨v, h2, h3⟩ := h.get h1
    have hlt : t < vs.length := (List.getElem?_eq_some_iff.1 h2).1
    rw [Array.getD_eq_getD_getElem?, Array.getElem?_append_left (by simpa using hlt)]
    simp only [List.getElem?_toArray, h2, Option.getD_some]
    exact h3
  · have : (T.e : T AV).get t = none := rfl
    rw [this] at h1; cases h1
theorem frameSz_eq {fn : Func} {args : List AV} {vs : List Value} (h : args.length = vs.length) : frameSz fn args = (vs.toArray ++ Array.replicate (fn.ntmps - vs.toArray.size) undef).size := by
  unfold frameSz
  simp only [llen_eq, iteB_eq, ble_iff, Array.size_append, List.size_toArray, Array.size_replicate, h]
  split <;> omega
theorem one1_cases {vs : List AV} : (∃ v, vs = [v] ∧ one1 vs = some v) ∨ (vs.length ≠ 1 ∧ one1 vs = none) := by
  match vs with
  | [] => right; exact ⟨by simp, rfl⟩
  | [v] => left; exact ⟨v, rfl, one1_some.2 rfl⟩
  | a :: b :: r => right; refine ⟨by simp, ?_⟩; cases h : one1 (a :: b :: r) with
    | none => rfl
    | some x => have := one1_some.1 h; simp at this
theorem result1_ok {C : Cx} {E : Env} {S : AW} {w : World} {tm : T AV} {tmps : Array Value} {sz : Nat} (hT : TTok C.P C.tt) (hS : Sim E S w) (ht : TR E sz tm tmps) {r : ResultVar} {a : AV} (h : resultX r C.tt tm S = some a) :
    ∃ v, ((match r with | .tmp t => pure (tmps.getD t undef) | .cell a t => do loadVar t (← asAddr (tmps.getD a undef)) : Sem Value)).run C.P w = .ok v w ∧ VR E a v := by
  cases r with
  | tmp t => exact ⟨_, rfl, ht.2 t a h⟩
  | cell p t =>
    have h : ob (tm.get p) (fun v => loadV C.tt S t v) = some a := h
    rw [ob_some] at h
    obtain ⟨q, hq, h⟩ := h
    obtain ⟨y, ad, hx, hr, hv⟩ := loadV_sound hT hS h (ht.2 p q hq)
    refine ⟨y, ?_, hv⟩
    simp only [hx, asAddr, Sem.run_bind, Sem.run_pure, Result.andThen_ok, hr]
theorem results_ok {C : Cx} {E : Env} {S : AW} {w : World} {tm : T AV} {tmps : Array Value} {sz : Nat} {fn : Func} {a : AV} (hT : TTok C.P C.tt) (hS : Sim E S w) (ht : TR E sz tm tmps) (h : resultsV C.tt fn tm S = some a) : ∃ v, (results fn tmps).run C.P w = .ok v w ∧ VR E a v := by
  simp only [resultsV, ob_some, Option.some.injEq] at h
  obtain ⟨vs, hvs, rfl⟩ := h
  have key : ∀ (l : List ResultVar) (vs : List AV), lmapO (fun r => resultX r C.tt tm S) l = some vs → ∃ xs : List Value, (l.mapM fun (r : ResultVar) => (match r with | .tmp t => pure (tmps.getD t undef) | .cell a t => do loadVar t (← asAddr (tmps.getD a undef)) : Sem Value)).run C.P w = .ok xs w ∧ LR E vs xs := by
    intro l
    induction l with
    | nil => intro vs h; rw [lmapO_nil] at h; cases h; exact ⟨[], by simp, LR.nil E⟩
    | cons r l ih =>
      intro vs h
      rw [lmapO_cons] at h
      cases hr : resultX r C.tt tm S with
      | none => simp [hr] at h
      | some a =>
        cases hl : lmapO (fun r => resultX r C.tt tm S) l with
        | none => simp [hr, hl] at h
        | some as =>
          simp only [hr, hl, Option.some.injEq] at h
          subst h
          obtain ⟨v, h1, h2⟩ := result1_ok hT hS ht hr
          obtain ⟨xs, h3, h4⟩ := ih as hl
          refine ⟨v :: xs, ?_, LR.cons h2 h4⟩
          rw [List.mapM_cons]
          simp only [Sem.run_bind, h1, h3, Result.andThen_ok, Sem.run_pure]
  obtain ⟨xs, h1, h2⟩ := key fn.results.toList vs hvs
  have h1' : (fn.results.mapM fun (r : ResultVar) => (match r with | .tmp t => pure (tmps.getD t undef) | .cell a t => do loadVar t (← asAddr (tmps.getD a undef)) : Sem Value)).run C.P w = .ok xs.toArray w := by
    rw [Array.mapM_eq_mapM_toList]
    simp only [map_eq_pure_bind, Sem.run_bind, h1, Result.andThen_ok, Sem.run_pure]
  refine ⟨if h : xs.toArray.size = 1 then xs.toArray[0] else .tuple xs.toArray, ?_, ?_⟩
  · unfold results
    simp only [Sem.run_bind]
    have e : ∀ (s : Sem (Array Value)), s = (fn.results.mapM fun (r : ResultVar) => (match r with | .tmp t => pure (tmps.getD t undef) | .cell a t => do loadVar t (← asAddr (tmps.getD a undef)) : Sem Value)) → s.run C.P w = .ok xs.toArray w := fun s hs => by rw [hs]; exact h1'
    rw [e _ (by congr 1)]
    simp only [Result.andThen_ok, Sem.run_pure]
  · rcases one1_cases (vs := vs) with ⟨v, rfl, h3⟩ | ⟨hn, h3⟩
    · rw [h3, oel_some]
      cases xs with
      | nil => simp [LR] at h2
      | cons x r =>
        cases r with
        | nil => simpa using h2.2 0 v x rfl rfl
        | cons y r => simp [LR] at h2
    · rw [h3, oel_none]
      rw [dif_neg (by simp; rw [← h2.1]; exact hn)]
      simp only [VR]
      exact ⟨xs, rfl, VRL_iff.2 h2⟩
/-- What is asked of the program's tables. -/
structure COk (C : Cx) : Prop where
  ty : TTok C.P C.tt
  fns : ∀ f fn, C.fns.get f = some fn → C.P.funcs[f]? = some fn ∧ (fn.name == "runtime.NumGoroutine") = false
  ext : ∀ (f : FuncId) (x : Ext) {args : List AV} {vs : List Value} {v : AV} {E : Env} {w : World}, C.ext f = some x → extV x args = some v → LR E args vs → ∃ y, (callFunc f vs.toArray).run C.P w = .ok (.value y) w ∧ VR E v y
  pr : ∀ (f : FuncId) (p : List AV → AW → Option (AV × AW)) {args : List AV} {S S' : AW} {v : AV} {E : Env} {w : World} {vs : List Value}, C.pr f = some p → p args S = some (v, S') → Sim E S w → LR E args vs → CallR C f vs.toArray w E S v S'
theorem run_enter {C : Cx} (hC : COk C) {f : FuncId} {fn : Func} {c : Code} (h : C.fns.get f = some fn) (hb : fn.body = some c) (args : Array Value) (w : World) : (callFunc f args).run C.P w = .ok (.enter f args) w := by
  obtain ⟨h1, h2⟩ := hC.fns f fn h
  unfold callFunc
  simp only [Sem.run_bind, run_program, Result.andThen_ok, h1, h2, Bool.false_eq_true, if_false, hb, Option.isNone_some, Sem.run_pure]
theorem isOut_iff {x : Exit} : isOut x = true ↔ x = .normal ∨ x = .ret := by cases x <;> simp [isOut]
/-- A deferred call. -/
theorem dcall_ok {C : Cx} {R : Iv} (hC : COk C) (hR : IvOk C R) {f : FuncId} {args : List AV} {S S' : AW} {E : Env} {w : World} {vs : List Value} (h : dcallV C R f args S = some S') (hS : Sim E S w) (ha : LR E args vs) (n : Nat) :
    (callFunc f vs.toArray).run C.P w = .ok (.enter f vs.toArray) w ∧ CallsDIn Fence.wide n C.P f vs.toArray .returning w fun e u w' => u = .returning ∧ ∃ x, e = .returned x ∧ ∃ E', Sim E' S' w' ∧ Grow S.next E S w E' S' w' := by
  simp only [dcallV, ob_some] at h
  obtain ⟨fn, hfn, c, hc, h⟩ := h
  refine ⟨run_enter hC hfn hc _ w, ?_⟩
  cases hr : R.dcode c (frameSz fn args) (argTm args) [] S with
  | no => rw [hr] at h; simp [rsDc] at h
  | mk x tm dfs S1 =>
    rw [hr] at h
    have h : tst (isOut x) (tst (isEmpty dfs) (ob (resultsV C.tt fn tm S1) fun _ => some S1)) = some S' := h
    simp only [tst_some, isEmpty_iff, ob_some, Option.some.injEq] at h
    obtain ⟨hx, rfl, a, hres, rfl⟩ := h
    refine callsDIn_of_wpSIn (hC.fns f fn hfn).1 hc trivial fun c0 cs hm => ?_
    have hT := argTm_TR ha fn.ntmps
    have hrel : Rel C E S w (argTm args) [] { tmps := vs.toArray ++ Array.replicate (fn.ntmps - vs.toArray.size) undef, defers := [] } := { ty := hC.ty, sim := hS, tmp := hT, dfr := rfl }
    have hw := hR.dcode (n := n) (cs := cs) hr hm hrel (frameSz_eq ha.1).symm
    intro b k hk hro hF hroom
    obtain ⟨e, a', cs', w', hl, ⟨hcs, rfl, E', hrel', hsz', hG⟩, harr⟩ := hw b k hk hro hF hroom
    refine ⟨e, a', cs', w', hl, ?_, harr⟩
    obtain ⟨v, hv, hvr⟩ := results_ok hC.ty hrel'.sim hrel'.tmp hres
    have hd : a'.defers = [] := hrel'.dfr
    have hc0 : cs' = { c0 with mode := .returning } :: cs := by rw [hcs, ← hm]
    have hpost : a'.defers = [] ∧ ∃ u', cs' = { c0 with mode := u' } :: cs ∧ ∃ v, (results fn a'.tmps).run C.P w' = .ok v w' ∧ (u' = .returning ∧ ∃ x, Ending.returned v = .returned x ∧ ∃ E', Sim E' S1 w' ∧ Grow S.next E S w E' S1 w') :=
      ⟨hd, .returning, hc0, v, hv, rfl, v, rfl, E', hrel'.sim, hG⟩
    rcases isOut_iff.1 hx with rfl | rfl
    · exact hpost
    · exact hpost
theorem dDfr_some {o : AObj} {b : Bool} : dDfr o = some b ↔ o = .dfr b := by cases o <;> simp [dDfr]
/-- The deferred calls, one by one. -/
theorem leave_ok {C : Cx} {R : Iv} (hC : COk C) (hR : IvOk C R) {fn : Func} {tmps : Array Value} {n : Nat} {Q : Ending → World → Prop} {S2 : AW} {E0 : Env} {S0 : AW} {w0 : World} {tm : T AV} {sz : Nat} {a : AV} (hres : resultsV C.tt fn tm S2 = some a)
    (hQ : ∀ v w E, VR E a v → Sim E S2 w → Grow S0.next E0 S0 w0 E S2 w → Q (.returned v) w) :
    ∀ {dfs : List ADef} {ds : List Deferred} {S : AW} {E : Env} {w : World}, lfoldO (fun S d => leaveX d C R S) dfs S = some S2 → DR E dfs ds → Sim E S w → TR E sz tm tmps → Grow S0.next E0 S0 w0 E S w → LeavesInM Fence.wide n C.P fn tmps Q ds .returning w
  | [], ds, S, E, w, h, hd, hS, ht, hG => by
    rw [lfoldO_nil] at h
    cases h
    have hd : ds = [] := hd
    subst hd
    obtain ⟨v, h1, h2⟩ := results_ok hC.ty hS ht hres
    exact ⟨v, h1, hQ v w E h2 hS hG⟩
  | d :: dfs, ds, S, E, w, h, hd, hS, ht, hG => by
    rw [lfoldO_cons] at h
    obtain ⟨d', r, rfl, hd1, hd2⟩ := hd
    cases hl : leaveX d C R S with
    | none => simp [hl] at h
    | some S1 =>
      simp only [hl] at h
      refine ⟨by simp, ?_⟩
      cases d with
      | mark i =>
        left
        obtain ⟨l, hlo, rfl⟩ := hd1
        have hl : ob (S.heap.get i) (fun o => ob (dDfr o) fun b => tst (notB b) (some (S.put i (.dfr true)))) = some S1 := hl
        simp only [ob_some, dDfr_some, tst_some, notB_eq, Bool.not_eq_true', Option.some.injEq] at hl
        obtain ⟨o, ho, b, rfl, rfl, rfl⟩ := hl
        obtain ⟨l', hl', hb⟩ := hS.obj _ _ ho
        rw [hlo] at hl'; cases hl'
        have hlt : l.blk < w.heap.size := (Array.getElem?_eq_some_iff.1 hb).1
        have hb : w.heap[l.blk]? = some (.deferred (some [])) := hb
        obtain ⟨g1, g2⟩ := hS.mod (ob := .deferred none) (o' := .dfr true) ho trivial hlo (show OR E _ l (.dfr true) from setBlk_same hlt) S0.next
        refine ⟨l.blk, _, rfl, run_takeDeferred hb, ?_⟩
        rw [putObj_eq]
        exact leave_ok hC hR hres hQ h hd2 g1 ht (hG.trans g2)
      | call f cap args =>
        right
        obtain ⟨xs, ys, rfl, h1, h2⟩ := hd1
        have hl : dcallV C R f (lapp args cap) S = some S1 := hl
        have hLR : LR E (lapp args cap) (ys ++ xs) := by rw [lapp_eq]; exact h2.append h1
        obtain ⟨he, hcd⟩ := dcall_ok hC hR hl hS hLR (n - 1)
        refine ⟨fun hd => by simp [Fence.wide] at hd, .func f, xs.toArray, f, (ys ++ xs).toArray, rfl, ?_, fun _ _ => trivial, ?_⟩
        · have e : ys.toArray ++ xs.toArray = (ys ++ xs).toArray := by apply Array.toList_inj.1; simp
          simp only [invoke, e]
          exact he
        · obtain ⟨hf, hcd⟩ := hcd
          refine ⟨hf, fun c cs hm hroom => ?_⟩
          obtain ⟨e, u', w', fr, ⟨rfl, x, rfl, E', hS', hG'⟩, rest⟩ := hcd c cs hm hroom
          refine ⟨.returned x, .returning, w', fr, ?_, rest⟩
          exact leave_ok hC hR hres hQ h (hd2.mono hG'.le) hS' (ht.mono hG'.le) (hG.trans (hG'.less hG.next))
theorem callF_ok {C : Cx} {R : Iv} (hC : COk C) (hR : IvOk C R) {f : FuncId} {args : List AV} {S S' : AW} {v : AV} {E : Env} {w : World} {vs : List Value} (h : callF C R f args S = some (v, S')) (hS : Sim E S w) (ha : LR E args vs) : CallR C f vs.toArray w E S v S' := by
  unfold callF at h
  cases hp : C.pr f with
  | some p => rw [hp, oel_some] at h; exact hC.pr f p hp h hS ha
  | none =>
    rw [hp, oel_none] at h
    cases hx : C.ext f with
    | some x =>
      rw [hx, oel_some] at h
      simp only [ob_some, Option.some.injEq, Prod.mk.injEq] at h
      obtain ⟨v', hv, rfl, rfl⟩ := h
      obtain ⟨y, h1, h2⟩ := hC.ext f x (w := w) hx hv ha
      exact .inr ⟨by rw [hx]; simp, y, h1, h2, rfl⟩
    | none =>
      rw [hx, oel_none] at h
      simp only [ob_some] at h
      obtain ⟨fn, hfn, c, hc, h⟩ := h
      refine .inl ⟨run_enter hC hfn hc _ w, fun n => ?_⟩
      cases hr : R.code c none (frameSz fn args) (argTm args) [] S with
      | no => rw [hr] at h; simp [rsCall] at h
      | mk x tm dfs S1 =>
        rw [hr] at h
        have h : tst (isOut x) (ob (lfoldO (fun S d => leaveX d C R S) dfs S1) fun S2 => ob (resultsV C.tt fn tm S2) fun v => some (v, S2)) = some (v, S') := h
        simp only [tst_some, ob_some, Option.some.injEq, Prod.mk.injEq] at h
        obtain ⟨hxo, S2, hl, a, hres, rfl, rfl⟩ := h
        have hT := argTm_TR ha fn.ntmps
        have hrel : Rel C E S w (argTm args) [] { tmps := vs.toArray ++ Array.replicate (fn.ntmps - vs.toArray.size) undef, defers := [] } := { ty := hC.ty, sim := hS, tmp := hT, dfr := rfl }
        refine callsIn_of_wp_marks (hC.fns f fn hfn).1 hc trivial ?_
        refine wpIn_mono (hR.code (n := n) hr (show RndOk E none Fence.wide from rfl) hrel (frameSz_eq ha.1).symm) ?_
        rintro e a1 w1 ⟨rfl, E1, hrel1, hsz1, hG1⟩
        have hlv : LeavesInM Fence.wide n C.P fn a1.tmps (CPost E S w a S2) a1.defers .returning w1 :=
          leave_ok hC hR hres (fun v w' E' h1 h2 h3 => ⟨v, E', rfl, h1, h2, h3⟩) hl hrel1.dfr hrel1.sim hrel1.tmp hG1
        rcases isOut_iff.1 hxo with rfl | rfl
        · exact hlv
        · exact hlv
end Go.Ev
namespace Go.Ev
def DPost (C : Cx) (c0 : Frame) (cs : List Frame) (E : Env) (S : AW) (w : World) (sz : Nat) (x : Exit) (tm : T AV) (dfs : List ADef) (S' : AW) : Exit → Act → List Frame → World → Prop := fun e a cs' w' => cs' = c0 :: cs ∧ Post C E S w sz x tm dfs S' e a w'
theorem exec_recover {ρ : Operand → Value} {o : Oper} {c : Call} {P : Program} {w : World} (ho : o.op = .call c) (hc : c.callee = .builtin .recover) : (execOp ρ o).run P w = .ok .recover w := by
  rw [exec_builtin ho hc]; rfl
theorem recoverD_none {c0 : Frame} {cs : List Frame} (h : c0.mode = .returning) : recoverD (c0 :: cs) = none := by
  simp [recoverD, h]
theorem stepR_reg {C : Cx} {R : Iv} {n : Nat} {o : Oper} {E : Env} {S : AW} {w : World} {tm : T AV} {dfs : List ADef} {act : Act} {k : K} {y : Rs} {c0 : Frame} {cs : List Frame} (hm : c0.mode = .returning) (hA : Rel C E S w tm dfs act)
    (h : stepR (opH o.op) C R none act.tmps.size o.dst tm dfs S k = y) (hy : y ≠ .no) : ∃ tm' S', k tm' dfs S' = y ∧ ∃ x w' E', ((execOp act.eval o).run C.P w = .ok (.value x) w' ∨ ((execOp act.eval o).run C.P w = .ok .recover w' ∧ x = .nilIface)) ∧
      Rel C E' S' w' tm' dfs (act.put o.dst x) ∧ Grow S.next E S w E' S' w' := by
  have hok := opH_ok o.op
  have hAt := hA.toAt
  have pVal : ∀ {f : VH}, VHok f o.op → sVal f C R none act.tmps.size o.dst tm dfs S k = y → ∃ tm' S', k tm' dfs S' = y ∧ ∃ x w' E', ((execOp act.eval o).run C.P w = .ok (.value x) w' ∨ ((execOp act.eval o).run C.P w = .ok .recover w' ∧ x = .nilIface)) ∧
      Rel C E' S' w' tm' dfs (act.put o.dst x) ∧ Grow S.next E S w E' S' w' := by
    intro f hf h
    obtain ⟨v, hv, h⟩ := orNo_some h hy
    obtain ⟨tm', hp, h⟩ := orNo_some h hy
    obtain ⟨x, h1, h2⟩ := hf rfl hAt hv
    exact ⟨tm', S, h, x, w, E, .inl h1, hA.put (Le.refl E) hAt.sim hp h2, Grow.refl _ _ _ _⟩
  cases ho : opH o.op with
  | val f => rw [ho] at h hok; exact pVal hok h
  | rdr f => rw [ho] at h hok; exact pVal hok h
  | new f =>
    rw [ho] at h hok
    have h : sNew f C R none act.tmps.size o.dst tm dfs S k = y := h
    unfold sNew at h
    rw [show (∀ g : Nat → Rs, forceN S.next g = g S.next) from fun g => forceN_eq _ g] at h
    obtain ⟨p, hv, h⟩ := orNo_some h hy
    obtain ⟨tm', hp, h⟩ := orNo_some h hy
    have hE := hAt.sim.new S.next (Nat.le_refl _)
    obtain ⟨x, w', l, h1, h2, h3⟩ := hok rfl hAt hE (v := p.1) (ob := p.2) hv
    obtain ⟨q1, q2⟩ := h3.sim hAt.sim hE (n := Nat.succ S.next) (Nat.le_succ _) (Nat.lt_succ_self _) (k := S.next) (Nat.le_refl _)
    exact ⟨tm', _, h, x, w', _, .inl h1, hA.put q2.le q1 hp h2, q2⟩
  | rcv =>
    rw [ho] at h hok
    obtain ⟨tm', hp, h⟩ := orNo_some (show sRcv C R none act.tmps.size o.dst tm dfs S k = y from h) hy
    obtain ⟨c, hc1, hc2⟩ := hok
    exact ⟨tm', S, h, .nilIface, w, E, .inr ⟨exec_recover hc1 hc2, rfl⟩, hA.put (Le.refl E) hAt.sim hp (by simp [VR]), Grow.refl _ _ _ _⟩
  | _ => rw [ho] at h; exact absurd h.symm hy
theorem regR_ok {C : Cx} {R : Iv} {n : Nat} {ops : Array Oper} {E0 : Env} {S0 : AW} {w0 : World} {sz : Nat} {x : Exit} {tm' : T AV} {dfs' : List ADef} {S' : AW} {c0 : Frame} {cs : List Frame} (hm : c0.mode = .returning) :
    ∀ (l : List Oper) (k : Nat) {E : Env} {S : AW} {w : World} {tm : T AV} {dfs : List ADef} {act : Act}, (∀ j, l[j]? = ops[k + j]?) → stepsK (stepOp stepR C R none sz ops.toList) l tm dfs S = .mk x tm' dfs' S' → Rel C E S w tm dfs act → act.tmps.size = sz → Grow S0.next E0 S0 w0 E S w →
      wpOpsSIn Fence.wide n C.P ops (DPost C c0 cs E0 S0 w0 sz x tm' dfs' S') (List.range' k l.length) act (c0 :: cs) w
  | [], k, E, S, w, tm, dfs, act, _, h, hA, hsz, hG => by
    rw [stepsK_nil] at h
    cases h
    exact ⟨rfl, rfl, E, hA, hsz, hG⟩
  | o :: l, k, E, S, w, tm, dfs, act, hl, h, hA, hsz, hG => by
    rw [stepsK_cons] at h
    subst hsz
    have h0 : ops[k]? = some o := by simpa using (hl 0).symm
    have hl' : ∀ j, l[j]? = ops[k + 1 + j]? := fun j => by have := hl (j + 1); simpa [Nat.add_assoc, Nat.add_comm 1 j] using this
    obtain ⟨b, hw, h⟩ := orNo_some (show orNo (wantedV ops.toList tm o) _ = _ from h) (by simp)
    have hwant := wanted_eq hw hA.tmp
    have hops : ops.toList.toArray = ops := by simp
    rw [hops] at hwant
    simp only [List.length_cons, List.range'_succ, wpOpsSIn, h0]
    refine ⟨fun f _ => trivial, ?_⟩
    cases b with
    | true =>
      rw [iteB_true] at h
      obtain ⟨tm1, S1, hk, y, w', E', hex, hrel, hG'⟩ := stepR_reg (n := n) (cs := cs) hm hA h (by simp)
      simp only [hwant, if_true]
      rcases hex with hex | ⟨hex, rfl⟩
      · rw [hex]
        exact regR_ok hm l (k + 1) hl' hk hrel (put_size _ _ _) (hG.trans (hG'.less hG.next))
      · rw [hex]
        simp only [recoverD_none hm]
        exact regR_ok hm l (k + 1) hl' hk hrel (put_size _ _ _) (hG.trans (hG'.less hG.next))
    | false =>
      rw [iteB_false] at h
      obtain ⟨tm1, hp, h⟩ := orNo_some h (by simp)
      simp only [hwant, Bool.false_eq_true, if_false]
      exact regR_ok hm l (k + 1) hl' h (hA.put (Le.refl E) hA.sim hp (VR_undef E)) (put_size _ _ _) hG
def CodeDOk (C : Cx) (k : Nat → K) (c : Code) : Prop := ∀ {n : Nat} {c0 : Frame} {cs : List Frame} {E : Env} {S : AW} {w : World} {sz : Nat} {x : Exit} {tm tm' : T AV} {dfs dfs' : List ADef} {S' : AW} {act : Act}, k sz tm dfs S = .mk x tm' dfs' S' → c0.mode = .returning → Rel C E S w tm dfs act → act.tmps.size = sz →
  c.wpSIn Fence.wide n C.P (DPost C c0 cs E S w sz x tm' dfs' S') act (c0 :: cs) w
theorem plainD {C : Cx} {R : Iv} (hR : IvOk C R) (hD : DrawOk C R) (N : Nat) (c : Code) : CodeDOk C (fun sz => codeK c C R N none sz) c := by
  intro n c0 cs E S w sz x tm tm' dfs dfs' S' act h hm hA hsz
  exact wpSIn_of_wpIn rfl (wpIn_mono (codeK_ok hR hD N c h (show RndOk E none Fence.wide from rfl) hA hsz) fun e a w h => ⟨rfl, h⟩)
theorem wpSIn_mono {F : Fence} {n : Nat} {P : Program} {c : Code} {Q Q' : Exit → Act → List Frame → World → Prop} {a : Act} {cs : List Frame} {w : World} (h : c.wpSIn F n P Q a cs w) (hq : ∀ e a cs w, Q e a cs w → Q' e a cs w) : c.wpSIn F n P Q' a cs w :=
  fun b k hb hr hF hroom => let ⟨e, a', cs', w', l, q, r⟩ := h b k hb hr hF hroom; ⟨e, a', cs', w', l, hq _ _ _ _ q, r⟩
theorem codeD_ok {C : Cx} {R : Iv} (hR : IvOk C R) (hD : DrawOk C R) (N : Nat) : ∀ c : Code, CodeDOk C (fun sz => codeD c C R N none sz) c := by
  intro c
  induction c with
  | region id ops draw =>
    intro n c0 cs E S w sz x tm tm' dfs dfs' S' act h hm hA hsz
    have h : iteB (hasRcv ops.toList) (iteB draw (fun _ _ _ => .no) (regR C R sz ops.toList)) (codeK (.region id ops draw) C R N none sz) tm dfs S = .mk x tm' dfs' S' := h
    cases hr : hasRcv ops.toList with
    | false =>
      rw [hr, iteB_false] at h
      exact plainD hR hD N _ h hm hA hsz
    | true =>
      rw [hr, iteB_true] at h
      cases draw with
      | true => cases h
      | false =>
        rw [iteB_false] at h
        have := regR_ok (n := n) (ops := ops) (cs := cs) hm ops.toList 0 (by simp) (show stepsK (stepOp stepR C R none sz ops.toList) ops.toList tm dfs S = _ from h) hA hsz (Grow.refl S.next E S w)
        refine wpSIn_region ?_
        rw [List.range_eq_range', ← Array.length_toList]
        exact this
  | seq a b iha ihb =>
    intro n c0 cs E S w sz x tm tm' dfs dfs' S' act h hm hA hsz
    rcases rsThen_some (show rsThen (codeD b C R N none sz) (codeD a C R N none sz tm dfs S) = _ from h) with ⟨tm1, dfs1, S1, hr, hk⟩ | ⟨hr, hne⟩
    · refine wpSIn_seq (wpSIn_mono (iha (n := n) (cs := cs) hr hm hA hsz) ?_)
      rintro e a1 cs1 w1 ⟨rfl, rfl, E1, hA1, hsz1, hG1⟩
      exact wpSIn_mono (ihb (n := n) (cs := cs) hk hm hA1 hsz1) fun e a cs w h => ⟨h.1, h.2.trans hG1⟩
    · refine wpSIn_seq (wpSIn_mono (iha (n := n) (cs := cs) hr hm hA hsz) ?_)
      rintro e a1 cs1 w1 ⟨rfl, rfl, hp⟩
      cases e <;> first | exact ⟨rfl, rfl, hp⟩ | exact absurd rfl hne
  | cond o a b iha ihb =>
    intro n c0 cs E S w sz x tm tm' dfs dfs' S' act h hm hA hsz
    obtain ⟨v, hv, h1⟩ := orNo_some (show orNo (aev tm o) _ = _ from h) (by simp)
    obtain ⟨t, ht, h2⟩ := orNo_some h1 (by simp)
    clear h h1
    rw [dBool_some] at ht
    subst ht
    have hc := hA.ev hv
    simp only [VR] at hc
    cases t with
    | true => exact wpSIn_cond hc (iha h2 hm hA hsz)
    | false => exact wpSIn_cond hc (ihb h2 hm hA hsz)
  | skip => exact fun h hm hA hsz => plainD hR hD N (.skip) h hm hA hsz
  | block id a _ => exact fun h hm hA hsz => plainD hR hD N (.block id a) h hm hA hsz
  | loop a _ => exact fun h hm hA hsz => plainD hR hD N (.loop a) h hm hA hsz
  | rangeFunc g ps a b _ _ => exact fun h hm hA hsz => plainD hR hD N (.rangeFunc g ps a b) h hm hA hsz
  | exit id => exact fun h hm hA hsz => plainD hR hD N (.exit id) h hm hA hsz
  | scope a _ => exact fun h hm hA hsz => plainD hR hD N (.scope a) h hm hA hsz
  | label l => exact fun h hm hA hsz => plainD hR hD N (.label l) h hm hA hsz
  | goto l => exact fun h hm hA hsz => plainD hR hD N (.goto l) h hm hA hsz
  | ret => exact fun h hm hA hsz => plainD hR hD N (.ret) h hm hA hsz
  | refuse r => exact fun h hm hA hsz => plainD hR hD N (.refuse r) h hm hA hsz
theorem iv0_ok (C : Cx) : IvOk C iv0 := by
  refine ⟨?_, ?_, ?_⟩
  · intro f args S S' v E w vs h; cases h
  · intro c rnd sz tm tm' dfs dfs' S S' x E w act F n h; cases h
  · intro c sz tm tm' dfs dfs' S S' x E w act n c0 cs h; cases h
theorem ivS_ok {C : Cx} (hC : COk C) {R : Iv} (hR : IvOk C R) (hD : DrawOk C R) (N : Nat) : IvOk C (ivS C N R) :=
  ⟨fun h hS ha => callF_ok hC hR h hS ha, fun h hF hA hsz => codeK_ok hR hD N _ h hF hA hsz, fun h hm hA hsz => codeD_ok hR hD N _ h hm hA hsz⟩
theorem iv_ok {C : Cx} (hC : COk C) (hD : ∀ R, IvOk C R → DrawOk C R) (N : Nat) : ∀ n, IvOk C (iv C N n)
  | 0 => iv0_ok C
  | n + 1 => ivS_ok hC (iv_ok hC hD N n) (hD _ (iv_ok hC hD N n)) N
end Go.Ev
namespace Go.Ev
def SameOn (tm tm2 : T AV) (xs : List Operand) : Prop := ∀ x ∈ xs, aev tm x = aev tm2 x
theorem SameOn.list {tm tm2 : T AV} {xs ys : List Operand} (h : SameOn tm tm2 ys) (hs : ∀ x ∈ xs, x ∈ ys) : lmapO (aev tm) xs = lmapO (aev tm2) xs := by
  induction xs with
  | nil => rfl
  | cons x xs ih => rw [lmapO_cons, lmapO_cons, h x (hs x (by simp)), ih (fun y hy => hs y (by simp [hy]))]
theorem SameOn.parts {tm tm2 : T AV} {ps : List (Nat × Operand)} {ys : List Operand} (h : SameOn tm tm2 ys) (hs : ∀ p ∈ ps, p.2 ∈ ys) : partsV tm ps = partsV tm2 ps := by
  unfold partsV
  induction ps with
  | nil => rfl
  | cons p ps ih => rw [lmapO_cons, lmapO_cons, h p.2 (hs p (by simp)), ih (fun y hy => hs y (by simp [hy]))]
theorem SameOn.opt {tm tm2 : T AV} {x : Option Operand} {ys : List Operand} (h : SameOn tm tm2 ys) (hs : ∀ y, x = some y → y ∈ ys) : evO tm x = evO tm2 x := by
  cases x with
  | none => rfl
  | some x => simp only [evO, oel_some, h x (hs x rfl)]
/-- How a handler is blind. -/
def VB (f : VH) (op : Op) (mem : Bool) : Prop := ∀ {C : Cx} {tm tm2 : T AV} {S S2 : AW}, SameOn tm tm2 op.operands.toList → (mem = true → S = S2) → f C tm S = f C tm2 S2
def NB (f : NH) (op : Op) : Prop := ∀ {C : Cx} {tm tm2 : T AV} {id : Nat}, SameOn tm tm2 op.operands.toList → f C tm id = f C tm2 id
def AB (f : AH) (op : Op) : Prop := ∀ {C : Cx} {R : Iv} {rnd : Option Nat} {tm tm2 : T AV} {S : AW}, SameOn tm tm2 op.operands.toList → f C R rnd tm S = f C R rnd tm2 S
def HB : OpH → Op → Prop
  | .val f, op => VB f op false
  | .rdr f, op => VB f op true
  | .new f, op => NB f op
  | .act f, op => AB f op
  | .call f c, op => AB (aCall f c) op
  | .vn f g, op => VB f op false ∧ NB g op
  | .va f _, op => VB f op true
  | _, _ => True
theorem opH_blind (op : Op) : HB (opH op) op := by
  cases op with
  | move x => intro C tm tm2 S S2 h _; exact h x (by simp [Op.operands])
  | assign x => intro C tm tm2 S S2 h _; exact h x (by simp [Op.operands])
  | pick c a b => intro C tm tm2 S S2 h _; simp only [vPick, h c (by simp [Op.operands]), h a (by simp [Op.operands]), h b (by simp [Op.operands])]
  | alloc t => intro C tm tm2 id h; rfl
  | box t x => intro C tm tm2 id h; simp only [nBox, h x (by simp [Op.operands])]
  | build t ps => intro C tm tm2 S S2 h _; simp only [vBuild, h.parts (ps := ps.toList) (by intro p hp; simp only [Op.operands]; simp; exact ⟨p.1, by simpa using hp⟩)]
  | buildSlice t n ps => intro C tm tm2 id h; simp only [nBuildSlice, h.parts (ps := ps.toList) (by intro p hp; simp only [Op.operands]; simp; exact ⟨p.1, by simpa using hp⟩)]
  | insert t m k x => intro C R rnd tm tm2 S h; simp only [aMapUpdate, h m (by simp [Op.operands]), h k (by simp [Op.operands]), h x (by simp [Op.operands])]
  | load t x => intro C tm tm2 S S2 h hS; rw [hS rfl]; simp only [vLoad, h x (by simp [Op.operands])]
  | store t a x => intro C R rnd tm tm2 S h; simp only [aStore, h a (by simp [Op.operands]), h x (by simp [Op.operands])]
  | nilCheck x => intro C tm tm2 S S2 h _; simp only [vNil, h x (by simp [Op.operands])]
  | binOp op t x y u => intro C tm tm2 S S2 h _; simp only [vBin, h x (by simp [Op.operands]), h y (by simp [Op.operands])]
  | unOp op t x => intro C tm tm2 S S2 h _; simp only [vUn, h x (by simp [Op.operands])]
  | convert s d x => intro C tm tm2 S S2 h hS; rw [hS rfl]; simp only [vConv, h x (by simp [Op.operands])]
  | sliceToArrayPointer t x => intro C tm tm2 S S2 h _; simp only [vArr, h x (by simp [Op.operands])]
  | makeInterface t x => intro C tm tm2 S S2 h _; simp only [vIfc, h x (by simp [Op.operands])]
  | makeFunc f a b => intro C tm tm2 S S2 h _; simp only [vFunc, h.list (xs := a.toList) (by intro y hy; simp [Op.operands] at hy ⊢; exact .inl hy), h.list (xs := b.toList) (by intro y hy; simp [Op.operands] at hy ⊢; exact .inr hy)]
  | makeMap t r => intro C tm tm2 id h; cases r with
    | none => rfl
    | some x => simp only [nMakeMap, oel_some, h x (by simp [Op.operands])]
  | makeSlice t l c => intro C tm tm2 id h; simp only [nMakeSlice, h l (by simp [Op.operands]), h c (by simp [Op.operands])]
  | slice t x lo hi mx =>
    have hlo : ∀ {tm tm2 : T AV}, SameOn tm tm2 (Op.slice t x lo hi mx).operands.toList → evO tm lo = evO tm2 lo ∧ evO tm hi = evO tm2 hi ∧ evO tm mx = evO tm2 mx ∧ aev tm x = aev tm2 x := by
      intro tm tm2 h
      refine ⟨h.opt ?_, h.opt ?_, h.opt ?_, h x ?_⟩
      · rintro y rfl; simp [Op.operands]
      · rintro y rfl; simp [Op.operands]
      · rintro y rfl; simp [Op.operands]
      · simp [Op.operands]
    refine ⟨?_, ?_⟩
    · intro C tm tm2 S S2 h _; obtain ⟨h1, h2, h3, h4⟩ := hlo h; simp only [vSlice, h1, h2, h3, h4]
    · intro C tm tm2 id h; obtain ⟨h1, h2, h3, h4⟩ := hlo h; simp only [nSliceEnd, h1, h2, h3, h4]
  | fieldAddr t x k => intro C tm tm2 S S2 h _; simp only [vFieldAddr, h x (by simp [Op.operands])]
  | field t x k => intro C tm tm2 S S2 h _; simp only [vField, h x (by simp [Op.operands])]
  | indexAddr t x i => intro C tm tm2 S S2 h _; simp only [vIndexAddr, h x (by simp [Op.operands]), h i (by simp [Op.operands])]
  | index t x i => intro C tm tm2 S S2 h _; simp only [vIndex, h x (by simp [Op.operands]), h i (by simp [Op.operands])]
  | lookup t x k ok => intro C tm tm2 S S2 h hS; rw [hS rfl]; simp only [vLookup, h x (by simp [Op.operands]), h k (by simp [Op.operands])]
  | mapUpdate t m k x => intro C R rnd tm tm2 S h; simp only [aMapUpdate, h m (by simp [Op.operands]), h k (by simp [Op.operands]), h x (by simp [Op.operands])]
  | mapEntry t m k => intro C R rnd tm tm2 S h; simp only [aMapEntry, h m (by simp [Op.operands]), h k (by simp [Op.operands])]
  | entryStore t m s x => intro C R rnd tm tm2 S h; simp only [aEntryStore, h m (by simp [Op.operands]), h s (by simp [Op.operands]), h x (by simp [Op.operands])]
  | range t x => intro C R rnd tm tm2 S h; simp only [aRange, h x (by simp [Op.operands])]
  | next it b => intro C R rnd tm tm2 S h; simp only [aNext, h it (by simp [Op.operands])]
  | entry x => intro C tm tm2 S S2 h hS; rw [hS rfl]; simp only [vEntry, h x (by simp [Op.operands])]
  | typeAssert x u t ok => intro C tm tm2 S S2 h _; simp only [vAssert, h x (by simp [Op.operands])]
  | extract x i => intro C tm tm2 S S2 h _; simp only [vExtract, h x (by simp [Op.operands])]
  | call c =>
    show HB (hCallee c.callee c) (.call c)
    have hargs : ∀ x ∈ c.args.toList, x ∈ (Op.call c).operands.toList := by
      intro x hx; simp only [Op.operands, Call.operands]; simp at hx ⊢; exact .inr hx
    have hB : ∀ f : BH, AB (aBuiltin f c) (.call c) := by
      intro f C R rnd tm tm2 S h; simp only [aBuiltin, h.list hargs]
    have hget : ∀ {tm tm2 : T AV} {i : Nat}, SameOn tm tm2 (Op.call c).operands.toList → ∀ {β : Type} (k : AV → Option β), (ob (lget c.args.toList i) fun x => ob (aev tm x) k) = (ob (lget c.args.toList i) fun x => ob (aev tm2 x) k) := by
      intro tm tm2 i h β k
      rw [lget_eq]
      cases hx : c.args.toList[i]? with
      | none => rfl
      | some x => simp only [ob_mk, h x (hargs x (List.mem_of_getElem? hx))]
    cases hc : c.callee with
    | value f =>
      intro C R rnd tm tm2 S h
      have hf : aev tm f = aev tm2 f := h f (by simp [Op.operands, Call.operands, hc])
      simp only [aCall, hf, h.list hargs]
    | invoke r m => trivial
    | builtin b =>
      cases b with
      | append => show AB (aBuiltin bAppend c) (.call c); exact hB _
      | clear => show AB (aBuiltin bClear c) (.call c); exact hB _
      | copy => show AB (aBuiltin bCopy c) (.call c); exact hB _
      | delete => show AB (aBuiltin bDelete c) (.call c); exact hB _
      | unsafeString => show AB (aBuiltin bString c) (.call c); exact hB _
      | cap => intro C tm tm2 S S2 h _; simp only [vCap, hget h]
      | len => intro C tm tm2 S S2 h hS; rw [hS rfl]; simp only [vLen, hget h]
      | max => intro C tm tm2 S S2 h _; simp only [vMax, h.list hargs]
      | min => intro C tm tm2 S S2 h _; simp only [vMin, h.list hargs]
      | unsafeSliceData => intro C tm tm2 S S2 h _; simp only [vSliceData, hget h]
      | _ => trivial
  | _ => trivial
end Go.Ev
namespace Go.Ev
theorem tb_iff {m i : Nat} : tb m i = Nat.testBit m i := by
  unfold tb
  rw [Nat.testBit_eq_decide_div_mod_eq]
  rw [Bool.eq_iff_iff]
  simp only [decide_eq_true_eq]
  exact ⟨fun h => eq_of_beq h, fun h => beq_iff.2 h⟩
theorem mask1_tb {M : T Nat} {m : Nat} {e : Edge} {i : Nat} : tb (mask1 M m e) i = true ↔ tb m i = true ∨ (bindsAny e = true ∧ (e.on = i ∨ ∃ x, M.get e.on = some x ∧ tb x i = true)) := by
  unfold mask1
  rw [iteB_eq]
  by_cases hb : bindsAny e = true
  · rw [if_pos hb]
    have h1 : ∀ a b : Nat, tb (Nat.lor a b) i = (tb a i || tb b i) := fun a b => by rw [tb_iff, tb_iff, tb_iff]; exact Nat.testBit_or a b i
    rw [h1, h1]
    have h2 : tb (Nat.pow 2 e.on) i = decide (e.on = i) := by rw [tb_iff]; exact Nat.testBit_two_pow
    rw [h2]
    cases hM : M.get e.on with
    | none =>
      have h0 : tb 0 i = false := by rw [tb_iff]; simp
      simp [oel, h0, hb]
    | some x =>
      simp only [oel_some, Bool.or_eq_true, decide_eq_true_eq, hb, true_and, Option.some.injEq, exists_eq_left']
      constructor
      · rintro ((h | h) | h)
        · exact .inl h
        · exact .inr (.inl h)
        · exact .inr (.inr h)
      · rintro (h | h | h)
        · exact .inl (.inl h)
        · exact .inl (.inr h)
        · exact .inr h
  · rw [if_neg hb]; simp [hb]
theorem maskF_tb {M : T Nat} {i : Nat} : ∀ {es : List Edge} {m : Nat}, tb (lfold (mask1 M) es m) i = true → tb m i = true ∨ ∃ e ∈ es, bindsAny e = true ∧ (e.on = i ∨ ∃ x, M.get e.on = some x ∧ tb x i = true)
  | [], m, h => .inl h
  | e :: es, m, h => by
    rw [lfold_cons] at h
    rcases maskF_tb h with h | ⟨e', he', h1, h2⟩
    · rcases mask1_tb.1 h with h | ⟨h1, h2⟩
      · exact .inl h
      · exact .inr ⟨e, by simp, h1, h2⟩
    · exact .inr ⟨e', by simp [he'], h1, h2⟩
/-- The masks, one by one. -/
noncomputable def masksF (s : T Nat × Nat) (o : Oper) : T Nat × Nat := (s.1.set s.2 (lfold (mask1 s.1) o.after.toList 0), Nat.succ s.2)
theorem masks_eq (ops : List Oper) : masks ops = (lfold masksF ops (.e, 0)).1 := rfl
theorem masksF_spec : ∀ (ops : List Oper) (s : T Nat × Nat), (∀ j m, s.1.get j = some m → j < s.2) →
    (∀ j, j < s.2 → (lfold masksF ops s).1.get j = s.1.get j) ∧ (∀ j m, (lfold masksF ops s).1.get j = some m → j < s.2 + ops.length) ∧
    ∀ j o, ops[j]? = some o → ∃ M : T Nat, (∀ i x, M.get i = some x → i < s.2 + j ∧ (lfold masksF ops s).1.get i = some x) ∧ (lfold masksF ops s).1.get (s.2 + j) = some (lfold (mask1 M) o.after.toList 0)
  | [], s, hs => ⟨fun j _ => rfl, fun j m h => by simpa using hs j m h, fun j o h => by simp at h⟩
  | o :: ops, s, hs => by
    rw [lfold_cons]
    have hs' : ∀ j m, (masksF s o).1.get j = some m → j < (masksF s o).2 := by
      intro j m h
      simp only [masksF, T.get_set] at h ⊢
      by_cases e : j = s.2
      · omega
      · rw [if_neg e] at h; have := hs j m h; omega
    obtain ⟨h1, h2, h3⟩ := masksF_spec ops (masksF s o) hs'
    have e2 : (masksF s o).2 = s.2 + 1 := rfl
    refine ⟨fun j hj => ?_, fun j m h => ?_, fun j o' hj => ?_⟩
    · rw [h1 j (by rw [e2]; omega)]
      simp only [masksF, T.get_set]
      rw [if_neg (by omega)]
    · have := h2 j m h
      rw [e2] at this
      simp only [List.length_cons]; omega
    · cases j with
      | zero =>
        simp only [List.getElem?_cons_zero, Option.some.injEq] at hj
        subst hj
        refine ⟨s.1, fun i x hi => ?_, ?_⟩
        · have hlt := hs i x hi
          refine ⟨by omega, ?_⟩
          rw [h1 i (by rw [e2]; omega)]
          simp only [masksF, T.get_set]
          rw [if_neg (by omega)]
          exact hi
        · rw [Nat.add_zero, h1 s.2 (by rw [e2]; omega)]
          simp only [masksF, T.get_set, if_true]
      | succ j =>
        obtain ⟨M, hM1, hM2⟩ := h3 j o' (by simpa using hj)
        rw [e2] at hM1 hM2
        refine ⟨M, fun i x hi => ?_, ?_⟩
        · obtain ⟨a, b⟩ := hM1 i x hi
          exact ⟨by omega, b⟩
        · rw [show s.2 + (j + 1) = s.2 + 1 + j by omega]; exact hM2
/-- What a mask says: a binding edge leads there. -/
theorem bef_edge {ops : List Oper} {i j : Nat} {o : Oper} (ho : ops[j]? = some o) (h : bef (masks ops) i j = true) : ∃ e ∈ o.after.toList, bindsAny e = true ∧ (e.on = i ∨ (e.on < j ∧ bef (masks ops) i e.on = true)) := by
  obtain ⟨_, _, h3⟩ := masksF_spec ops (.e, 0) (fun j m h => by cases h)
  obtain ⟨M, hM1, hM2⟩ := h3 j o ho
  simp only [Nat.zero_add] at hM1 hM2
  rw [← masks_eq] at hM1 hM2
  unfold bef at h
  rw [hM2, oel_some] at h
  rcases maskF_tb h with h | ⟨e, he, hb, h⟩
  · rw [tb_iff] at h; simp at h
  · refine ⟨e, he, hb, ?_⟩
    rcases h with h | ⟨x, hx, h⟩
    · exact .inl h
    · obtain ⟨a, b⟩ := hM1 _ _ hx
      exact .inr ⟨a, by unfold bef; rw [b, oel_some]; exact h⟩
theorem bef_lt {ops : List Oper} (hE : ∀ j o, ops[j]? = some o → ∀ e ∈ o.after.toList, bindsAny e = true → e.on < j) : ∀ (j : Nat) {i : Nat}, bef (masks ops) i j = true → i < j := by
  intro j
  induction j using Nat.strongRecOn with
  | _ j ih =>
    intro i h
    cases ho : ops[j]? with
    | none =>
      exfalso
      obtain ⟨_, h2, _⟩ := masksF_spec ops (.e, 0) (fun j m h => by cases h)
      unfold bef at h
      rw [masks_eq] at h
      cases hg : (lfold masksF ops (.e, 0)).1.get j with
      | none => simp [hg] at h
      | some m =>
        have := h2 j m hg
        have hj : ops.length ≤ j := by simpa using ho
        simp only [Nat.zero_add] at this
        omega
    | some o =>
      obtain ⟨e, he, hb, h⟩ := bef_edge ho h
      have hlt := hE j o ho e he hb
      rcases h with rfl | ⟨_, h⟩
      · exact hlt
      · exact Nat.lt_trans (ih e.on hlt h) hlt
theorem binds_any (e : Edge) : Region.binds .any e = bindsAny e := by
  unfold Region.binds bindsAny
  cases e.ground <;> rfl
/-- A set that the edges close, the masks close. -/
theorem bef_closed {ops : List Oper} {D : Nat → Prop} (hD : ∀ j o, D j → ops[j]? = some o → ∀ e ∈ o.after.toList, bindsAny e = true → D e.on) (hb : ∀ j, D j → j < ops.length) : ∀ (j : Nat) {i : Nat}, D j → bef (masks ops) i j = true → D i := by
  intro j
  induction j using Nat.strongRecOn with
  | _ j ih =>
    intro i hj h
    have hlt := hb j hj
    have ho : ops[j]? = some ops[j] := by simp [hlt]
    obtain ⟨e, he, hbe, h⟩ := bef_edge ho h
    have hd := hD j _ hj ho e he hbe
    rcases h with rfl | ⟨hl, h⟩
    · exact hd
    · exact ih e.on hl hd h
end Go.Ev
namespace Go.Ev
/-- An act: how it is true to its operation. -/
def ActP (C : Cx) (R : Iv) (rnd : Option Nat) (o : Oper) (f : AH) : Prop := ∀ {F : Fence} {n : Nat} {E : Env} {S S' : AW} {w : World} {tm : T AV} {act : Act} {v : AV}, RndOk E rnd F → At C E S w tm act → f C R rnd tm S = some (v, S') → StepOk C F n o E S w act v S'
inductive Kd where
  | pure (v : AV)
  | rdr (f : VH) (v : AV)
  | new (g : NH) (v : AV) (o : AObj)
  | act (f : AH) (v : AV)
/-- What a step has done. -/
def IsK (C : Cx) (R : Iv) (rnd : Option Nat) (sz : Nat) (ops : List Oper) (base : Nat) (M : T Nat) (s : DS) (o : Oper) (s' : DS) : Kd → Prop
  | .pure v => (∃ tm, putT sz o.dst v s.tm = some tm ∧ s' = s.val tm) ∧ ((wantedV ops s.tm o = some false ∧ v = undefV) ∨ (wantedV ops s.tm o = some true ∧ ∃ f, VHok f o.op ∧ VB f o.op false ∧ notDefer o.op ∧ f C s.tm s.S = some v))
  | .rdr f v => wantedV ops s.tm o = some true ∧ VHok f o.op ∧ VB f o.op true ∧ notDefer o.op ∧ f C s.tm s.S = some v ∧ (∀ p ∈ s.acts, bef M p.j s.j = true ∨ optSame (f C s.tm p.S) v = true) ∧
      ∃ tm, putT sz o.dst v s.tm = some tm ∧ s' = { tm := tm, S := s.S, j := Nat.succ s.j, pend := s.pend, acts := s.acts, reads := ⟨s.j, f, s.tm, v⟩ :: s.reads }
  | .new g v ob => wantedV ops s.tm o = some true ∧ NHok g o.op ∧ NB g o.op ∧ notDefer o.op ∧ g C s.tm (Nat.add base s.j) = some (v, ob) ∧
      ∃ tm, putT sz o.dst v s.tm = some tm ∧ s' = { tm := tm, S := s.S, j := Nat.succ s.j, pend := ⟨s.j, Nat.add base s.j, ob⟩ :: s.pend, acts := s.acts, reads := s.reads }
  | .act f v => wantedV ops s.tm o = some true ∧ ActP C R rnd o f ∧ AB f o.op ∧ (∀ p ∈ s.acts, bef M p.j s.j = true) ∧ ∃ S1, f C R rnd s.tm (layPend M s.j s.pend s.S) = some (v, S1) ∧
      (∀ r ∈ s.reads, bef M r.j s.j = true ∨ optSame (r.f C r.tm S1) r.v = true) ∧
      ∃ tm, putT sz o.dst v s.tm = some tm ∧ s' = { tm := tm, S := S1, j := Nat.succ s.j, pend := s.pend.filter (fun q => !(bef M q.j s.j)), acts := ⟨s.j, s.S⟩ :: s.acts, reads := s.reads }
theorem stepD_kind {C : Cx} {R : Iv} (hR : IvOk C R) {rnd : Option Nat} {sz : Nat} {ops : List Oper} {base : Nat} {M W : T Nat} {s s' : DS} {o : Oper} (h : stepD C R rnd sz ops base M W s o = some s') :
    namesOk M W s.j o = true ∧ (∀ e ∈ o.after.toList, bindsAny e = true → e.on < s.j) ∧ ∃ k, IsK C R rnd sz ops base M s o s' k := by
  simp only [stepD, tst_some, andB_eq, Bool.and_eq_true, ob_some, lall_eq, List.all_eq_true, orB_eq, notB_eq, Bool.or_eq_true, Bool.not_eq_true', blt_iff] at h
  obtain ⟨⟨hn, he⟩, b, hw, h⟩ := h
  refine ⟨hn, fun e h1 h2 => ?_, ?_⟩
  · rcases he e h1 with h | h
    · rw [h2] at h; cases h
    · exact h
  cases b with
  | false =>
    rw [iteB_false, ob_some] at h
    obtain ⟨tm, hp, h⟩ := h
    cases h
    exact ⟨.pure undefV, ⟨tm, hp, rfl⟩, .inl ⟨hw, rfl⟩⟩
  | true =>
    rw [iteB_true] at h
    have hok := opH_ok o.op
    have hbl := opH_blind o.op
    have hnd : (∀ c, opH o.op ≠ .dfr c) → notDefer o.op := by
      intro h c hc
      rw [hc] at h
      exact h c rfl
    have pVal : ∀ {f : VH}, VHok f o.op → VB f o.op false → notDefer o.op → ∀ {v tm}, f C s.tm s.S = some v → putT sz o.dst v s.tm = some tm → s' = s.val tm → ∃ k, IsK C R rnd sz ops base M s o s' k :=
      fun {f} h1 h2 h3 {v tm} h4 h5 h6 => ⟨.pure v, ⟨tm, h5, h6⟩, .inr ⟨hw, f, h1, h2, h3, h4⟩⟩
    have pRdr : ∀ {f : VH}, VHok f o.op → VB f o.op true → notDefer o.op → dRdr f C R rnd sz base M o.dst s = some s' → ∃ k, IsK C R rnd sz ops base M s o s' k := by
      intro f h1 h2 h3 h
      simp only [dRdr, ob_some, tst_some, lall_eq, List.all_eq_true, orB_eq, Bool.or_eq_true, Option.some.injEq] at h
      obtain ⟨v, hv, tm, hp, hacts, h⟩ := h
      exact ⟨.rdr f v, hw, h1, h2, h3, hv, hacts, tm, hp, h.symm⟩
    have pNew : ∀ {g : NH}, NHok g o.op → NB g o.op → notDefer o.op → dNew g C R rnd sz base M o.dst s = some s' → ∃ k, IsK C R rnd sz ops base M s o s' k := by
      intro g h1 h2 h3 h
      simp only [dNew, ob_some, Option.some.injEq] at h
      obtain ⟨p, hv, tm, hp, h⟩ := h
      exact ⟨.new g p.1 p.2, hw, h1, h2, h3, hv, tm, hp, h.symm⟩
    have pAct : ∀ {f : AH}, ActP C R rnd o f → AB f o.op → dAct f C R rnd sz base M o.dst s = some s' → ∃ k, IsK C R rnd sz ops base M s o s' k := by
      intro f h1 h2 h
      simp only [dAct, dAct2, ob_some, tst_some, lall_eq, List.all_eq_true, orB_eq, Bool.or_eq_true, Option.some.injEq, lfilter_eq, notB_eq] at h
      obtain ⟨hacts, p, hv, tm, hp, hr, h⟩ := h
      exact ⟨.act f p.1, hw, h1, h2, hacts, p.2, hv, hr, tm, hp, h.symm⟩
    cases ho : opH o.op with
    | val f =>
      rw [ho] at h hok hbl
      have h : dVal f C R rnd sz base M o.dst s = some s' := h
      simp only [dVal, ob_some, Option.some.injEq] at h
      obtain ⟨v, hv, tm, hp, h⟩ := h
      exact pVal hok hbl (hnd (by rw [ho]; simp)) hv hp h.symm
    | rdr f => rw [ho] at h hok hbl; exact pRdr hok hbl (hnd (by rw [ho]; simp)) h
    | new g => rw [ho] at h hok hbl; exact pNew hok hbl (hnd (by rw [ho]; simp)) h
    | act f =>
      rw [ho] at h hok hbl
      exact pAct (fun {F n E S S' w tm act v} hF hA hf => ((hok (R := R) (rnd := rnd) rfl hA hf).step (fun f => hF.fn f) (hnd (by rw [ho]; simp)))) hbl h
    | call f c =>
      rw [ho] at h hok hbl
      exact pAct (fun {F n E S S' w tm act v} hF hA hf => aCall_step hR hF hok.1 hok.2 hA hf) hbl h
    | vn f g =>
      rw [ho] at h hok hbl
      have h : oel (dNew g C R rnd sz base M o.dst s) (f C s.tm s.S) (fun v => ob (putT sz o.dst v s.tm) fun tm => some (s.val tm)) = some s' := h
      cases hv : f C s.tm s.S with
      | none => rw [hv, oel_none] at h; exact pNew hok.2 hbl.2 (hnd (by rw [ho]; simp)) h
      | some v =>
        rw [hv, oel_some, ob_some] at h
        obtain ⟨tm, hp, h⟩ := h
        cases h
        exact pVal hok.1 hbl.1 (hnd (by rw [ho]; simp)) hv hp rfl
    | va f g => rw [ho] at h hok hbl; exact pRdr hok.1 hbl (hnd (by rw [ho]; simp)) h
    | _ => rw [ho] at h; cases h
end Go.Ev
namespace Go.Ev
theorem capSame_eq {c d : Cap} (h : capSame c d = true) : c = d := by
  cases c with
  | ex x =>
    cases d with
    | ex y => exact congrArg Cap.ex (eq_of_beq (show Nat.beq x y = true from h))
    | rest y => cases h
  | rest x =>
    cases d with
    | ex y => cases h
    | rest y => exact congrArg Cap.rest (eq_of_beq (show Nat.beq x y = true from h))
theorem oel_false_some {α : Type} {x : Option α} {f : α → Bool} (h : oel false x f = true) : ∃ a, x = some a ∧ f a = true := by
  cases x with
  | none => simp at h
  | some a => exact ⟨a, rfl, h⟩
theorem sameV_eq {x y : AV} (h : sameV x y = true) : x = y := by
  unfold sameV at h
  cases h1 : dFn x with
  | some a =>
    rw [h1, oel_some] at h
    obtain ⟨b, hb, h⟩ := oel_false_some h
    simp only [andB_eq, Bool.and_eq_true, isEmpty_iff] at h
    obtain ⟨hf, ⟨e1, e2⟩, e3, e4⟩ := h
    have hf := eq_of_beq hf
    rw [dFn_some] at h1 hb
    rw [h1, hb, e1, e2, e3, e4, hf]
  | none =>
    rw [h1, oel_none] at h
    cases h2 : dStr x with
    | some a =>
      rw [h2, oel_some] at h
      obtain ⟨b, hb, h⟩ := oel_false_some h
      rw [lbeq_eq, decide_eq_true_eq] at h
      rw [dStr_some] at h2 hb
      rw [h2, hb, h]
    | none =>
      rw [h2, oel_none] at h
      cases h3 : dPtr x with
      | some p =>
        rw [h3, oel_some] at h
        obtain ⟨q, hq, h⟩ := oel_false_some h
        simp only [andB_eq, Bool.and_eq_true] at h
        rw [dPtr_some] at h3 hq
        rw [h3, hq, eq_of_beq h.1, eq_of_beq h.2]
      | none =>
        rw [h3, oel_none] at h
        cases h4 : dSl x with
        | some s =>
          rw [h4, oel_some] at h
          obtain ⟨t, ht, h⟩ := oel_false_some h
          simp only [slSame, andB_eq, Bool.and_eq_true] at h
          obtain ⟨a1, a2, a3, a4⟩ := h
          rw [dSl_some] at h4 ht
          rw [h4, ht, eq_of_beq a1, eq_of_beq a2, eq_of_beq a3, capSame_eq a4]
        | none =>
          rw [h4, oel_none] at h
          cases h5 : dMap x with
          | some i =>
            rw [h5, oel_some] at h
            obtain ⟨j, hj, h⟩ := oel_false_some h
            rw [dMap_some] at h5 hj
            rw [h5, hj, eq_of_beq h]
          | none =>
            rw [h5, oel_none] at h
            exact sameScalar_eq h
theorem sameL_nil (r : List AV) : sameL [] r = isEmpty r := rfl
theorem sameL_cons (x : AV) (l r : List AV) : sameL (x :: l) r = oel false (lget r 0) fun y => andB (sameV x y) (sameL l (ldrop r 1)) := rfl
theorem sameL_eq : ∀ {l r : List AV}, sameL l r = true → l = r
  | [], r, h => by rw [sameL_nil, isEmpty_iff] at h; exact h.symm
  | x :: l, r, h => by
    rw [sameL_cons] at h
    obtain ⟨y, hy, h⟩ := oel_false_some h
    rw [andB_eq, Bool.and_eq_true] at h
    cases r with
    | nil => rw [lget_eq] at hy; simp at hy
    | cons z r =>
      rw [lget_eq] at hy
      simp at hy
      subst hy
      have h2 := h.2
      rw [ldrop_eq] at h2
      rw [sameV_eq h.1, sameL_eq (show sameL l r = true by simpa using h2)]
theorem sameR_nil (r : RL) : sameR [] r = isEmpty r := rfl
theorem sameR_cons (x : Nat × AV) (l r : RL) : sameR (x :: l) r = oel false (lget r 0) fun y => andB (Nat.beq x.1 y.1) (andB (sameV x.2 y.2) (sameR l (ldrop r 1))) := rfl
theorem sameR_eq : ∀ {l r : RL}, sameR l r = true → l = r
  | [], r, h => by rw [sameR_nil, isEmpty_iff] at h; exact h.symm
  | x :: l, r, h => by
    rw [sameR_cons] at h
    obtain ⟨y, hy, h⟩ := oel_false_some h
    simp only [andB_eq, Bool.and_eq_true] at h
    cases r with
    | nil => rw [lget_eq] at hy; simp at hy
    | cons z r =>
      rw [lget_eq] at hy
      simp at hy
      subst hy
      obtain ⟨h1, h2, h3⟩ := h
      rw [ldrop_eq] at h3
      have e : x = z := Prod.ext (eq_of_beq h1) (sameV_eq h2)
      rw [e, sameR_eq (show sameR l r = true by simpa using h3)]
theorem sameV1_eq {x y : AV} (h : sameV1 x y = true) : x = y := by
  unfold sameV1 at h
  cases h1 : dAgg x with
  | some a =>
    rw [h1, oel_some] at h
    obtain ⟨b, hb, h⟩ := oel_false_some h
    rw [dAgg_some] at h1 hb
    rw [h1, hb, sameR_eq h]
  | none =>
    rw [h1, oel_none] at h
    cases h2 : dTup x with
    | some a =>
      rw [h2, oel_some] at h
      obtain ⟨b, hb, h⟩ := oel_false_some h
      rw [dTup_some] at h2 hb
      rw [h2, hb, sameL_eq h]
    | none =>
      rw [h2, oel_none] at h
      cases h3 : dFn x with
      | some a =>
        rw [h3, oel_some] at h
        obtain ⟨b, hb, h⟩ := oel_false_some h
        simp only [andB_eq, Bool.and_eq_true] at h
        obtain ⟨e1, e2, e3⟩ := h
        rw [dFn_some] at h3 hb
        rw [h3, hb, eq_of_beq e1, sameL_eq e2, sameL_eq e3]
      | none =>
        rw [h3, oel_none] at h
        exact sameV_eq h
theorem optSame_eq {x : Option AV} {y : AV} (h : optSame x y = true) : x = some y := by
  obtain ⟨a, ha, h⟩ := oel_false_some h
  rw [ha, sameV1_eq h]
/-- A frame cut down to some temporaries. -/
noncomputable def cutTm (tm : T AV) (ts : List Nat) : T AV := ts.foldl (fun s t => match tm.get t with | some v => s.set t v | none => s) .e
theorem cutTm_get (tm : T AV) : ∀ (ts : List Nat) (t : Nat), (cutTm tm ts).get t = if t ∈ ts then tm.get t else none := by
  intro ts t
  have key : ∀ (ts : List Nat) (s : T AV), (∀ t v, s.get t = some v → tm.get t = some v) → (ts.foldl (fun s t => match tm.get t with | some v => s.set t v | none => s) s).get t = if t ∈ ts then tm.get t else s.get t := by
    intro ts
    induction ts with
    | nil => intro s _; simp
    | cons a ts ih =>
      intro s hs
      rw [List.foldl_cons]
      cases ha : tm.get a with
      | none =>
        simp only
        rw [ih s hs]
        by_cases h1 : t ∈ ts
        · simp [h1]
        · by_cases h2 : t = a
          · subst h2
            simp only [h1, if_false, List.mem_cons, true_or, if_true, ha]
            cases hst : s.get t with
            | none => rfl
            | some v => have := hs t v hst; rw [ha] at this; cases this
          · simp [h1, h2]
      | some v =>
        simp only
        rw [ih (s.set a v) (fun t' v' h => by
          rw [T.get_set] at h
          by_cases e : t' = a
          · rw [if_pos e] at h; cases h; rw [e]; exact ha
          · rw [if_neg e] at h; exact hs t' v' h)]
        by_cases h1 : t ∈ ts
        · simp [h1]
        · rw [T.get_set]
          by_cases h2 : t = a
          · subst h2; simp [h1, ha]
          · simp [h1, h2]
  have := key ts .e (fun t v h => by cases h)
  unfold cutTm
  rw [this]
  rfl
end Go.Ev
namespace Go.Ev
theorem writer1_some {s s' : T Nat × Nat} {o : Oper} (h : writer1 s o = some s') : s'.2 = s.2 + 1 ∧ ((o.dst = none ∧ s'.1 = s.1) ∨ ∃ d, o.dst = some d ∧ s.1.get d = none ∧ s'.1 = s.1.set d s.2) := by
  unfold writer1 at h
  cases hd : o.dst with
  | none => rw [hd, oel_none] at h; cases h; exact ⟨rfl, .inl ⟨rfl, rfl⟩⟩
  | some d =>
    rw [hd, oel_some] at h
    cases hg : s.1.get d with
    | none => rw [hg, oel_none] at h; cases h; exact ⟨rfl, .inr ⟨d, rfl, hg, rfl⟩⟩
    | some x => rw [hg, oel_some] at h; cases h
theorem writers_spec : ∀ (ops : List Oper) (s s' : T Nat × Nat), lfoldO writer1 ops s = some s' → s'.2 = s.2 + ops.length ∧ (∀ d i, s.1.get d = some i → s'.1.get d = some i) ∧
    (∀ j o d, ops[j]? = some o → o.dst = some d → s'.1.get d = some (s.2 + j)) ∧ (∀ d i, s'.1.get d = some i → s.1.get d = some i ∨ ∃ j o, i = s.2 + j ∧ ops[j]? = some o ∧ o.dst = some d)
  | [], s, s', h => by
    rw [lfoldO_nil] at h
    cases h
    exact ⟨rfl, fun d i h => h, fun j o d h => by simp at h, fun d i h => .inl h⟩
  | o :: ops, s, s', h => by
    rw [lfoldO_cons] at h
    cases h1 : writer1 s o with
    | none => simp [h1] at h
    | some s1 =>
      simp only [h1] at h
      obtain ⟨e2, hc⟩ := writer1_some h1
      obtain ⟨q1, q2, q3, q4⟩ := writers_spec ops s1 s' h
      have hkeep : ∀ d i, s.1.get d = some i → s1.1.get d = some i := by
        intro d i hd
        rcases hc with ⟨_, e⟩ | ⟨d', _, hn, e⟩
        · rw [e]; exact hd
        · rw [e, T.get_set]
          by_cases hdd : d = d'
          · subst hdd; rw [hn] at hd; cases hd
          · rw [if_neg hdd]; exact hd
      refine ⟨by rw [q1, e2, List.length_cons]; omega, fun d i hd => q2 d i (hkeep d i hd), fun j o' d hj hd => ?_, fun d i hd => ?_⟩
      · cases j with
        | zero =>
          simp at hj
          subst hj
          rcases hc with ⟨e, _⟩ | ⟨d', e, hn, es⟩
          · rw [e] at hd; cases hd
          · rw [e] at hd; cases hd
            refine q2 _ _ ?_
            rw [es, T.get_set, if_pos rfl]; simp
        | succ j =>
          have := q3 j o' d (by simpa using hj) hd
          rw [this, e2]; congr 1; omega
      · rcases q4 d i hd with h | ⟨j, o', rfl, hj, hd'⟩
        · rcases hc with ⟨_, e⟩ | ⟨d', hdst, hn, e⟩
          · rw [e] at h; exact .inl h
          · rw [e, T.get_set] at h
            by_cases hdd : d = d'
            · rw [if_pos hdd] at h
              cases h
              subst hdd
              exact .inr ⟨0, o, by simp, by simp, hdst⟩
            · rw [if_neg hdd] at h; exact .inl h
        · exact .inr ⟨j + 1, o', by rw [e2]; omega, by simpa using hj, hd'⟩
theorem writers_ok {ops : List Oper} {W : T Nat × Nat} (h : writers ops = some W) : W.2 = ops.length ∧ ∀ d i, W.1.get d = some i ↔ ∃ o, ops[i]? = some o ∧ o.dst = some d := by
  obtain ⟨h1, _, h3, h4⟩ := writers_spec ops (.e, 0) W h
  refine ⟨by simpa using h1, fun d i => ⟨fun h => ?_, fun ⟨o, ho, hd⟩ => by have := h3 i o d ho hd; simpa using this⟩⟩
  rcases h4 d i h with h | ⟨j, o, rfl, hj, hd⟩
  · cases h
  · exact ⟨o, by simpa using hj, hd⟩
theorem putT_get {sz : Nat} {dst : Option Tmp} {v : AV} {tm tm' : T AV} (h : putT sz dst v tm = some tm') (t : Nat) : tm'.get t = if dst = some t then some v else tm.get t := by
  cases dst with
  | none => simp only [putT, oel_none, Option.some.injEq] at h; subst h; simp
  | some d =>
    simp only [putT, oel_some, tst_some, forceV_eq, Option.some.injEq] at h
    obtain ⟨_, rfl⟩ := h
    rw [T.get_set]
    by_cases e : t = d
    · subst e; simp
    · rw [if_neg e, if_neg (by simpa using Ne.symm e)]
theorem IsK.tm {C : Cx} {R : Iv} {rnd : Option Nat} {sz : Nat} {ops : List Oper} {base : Nat} {M : T Nat} {s s' : DS} {o : Oper} {k : Kd} (h : IsK C R rnd sz ops base M s o s' k) : s'.j = s.j + 1 ∧ ∃ v, putT sz o.dst v s.tm = some s'.tm := by
  cases k with
  | pure v => obtain ⟨⟨tm, hp, rfl⟩, _⟩ := h; exact ⟨rfl, v, hp⟩
  | rdr f v => obtain ⟨_, _, _, _, _, _, tm, hp, rfl⟩ := h; exact ⟨rfl, v, hp⟩
  | new g v ob => obtain ⟨_, _, _, _, _, tm, hp, rfl⟩ := h; exact ⟨rfl, v, hp⟩
  | act f v => obtain ⟨_, _, _, _, S1, _, _, tm, hp, rfl⟩ := h; exact ⟨rfl, v, hp⟩
/-- The steps, one by one: what stood before each. -/
theorem trace {C : Cx} {R : Iv} {rnd : Option Nat} {sz : Nat} {opsA : List Oper} {base : Nat} {M W : T Nat} : ∀ (l : List Oper) (s s' : DS), lfoldO (stepD C R rnd sz opsA base M W) l s = some s' →
    ∃ st : Nat → DS, st 0 = s ∧ st l.length = s' ∧ ∀ j o, l[j]? = some o → stepD C R rnd sz opsA base M W (st j) o = some (st (j + 1))
  | [], s, s', h => by
    rw [lfoldO_nil] at h
    cases h
    exact ⟨fun _ => s, rfl, rfl, fun j o h => by simp at h⟩
  | o :: l, s, s', h => by
    rw [lfoldO_cons] at h
    cases h1 : stepD C R rnd sz opsA base M W s o with
    | none => simp [h1] at h
    | some s1 =>
      simp only [h1] at h
      obtain ⟨st, e0, en, hst⟩ := trace l s1 s' h
      refine ⟨fun j => match j with | 0 => s | j + 1 => st j, rfl, by simpa using en, fun j o' hj => ?_⟩
      cases j with
      | zero => simp at hj; subst hj; simp only [e0]; exact h1
      | succ j => exact hst j o' (by simpa using hj)
end Go.Ev
namespace Go.Ev
/-- The steps that were taken in the text's order, and of which kind each was. -/
structure Tr (C : Cx) (R : Iv) (rnd : Option Nat) (sz : Nat) (ops : List Oper) (base : Nat) (W : T Nat) (st : Nat → DS) (kd : Nat → Kd) : Prop where
  zero : (st 0).j = 0 ∧ (st 0).pend = [] ∧ (st 0).acts = [] ∧ (st 0).reads = []
  wr : ∀ d i, W.get d = some i ↔ ∃ o, ops[i]? = some o ∧ o.dst = some d
  kind : ∀ i o, ops[i]? = some o → IsK C R rnd sz ops base (masks ops) (st i) o (st (i + 1)) (kd i)
  names : ∀ i o, ops[i]? = some o → namesOk (masks ops) W i o = true
  edges : ∀ i o, ops[i]? = some o → ∀ e ∈ o.after.toList, bindsAny e = true → e.on < i
theorem mkTr {C : Cx} {R : Iv} (hR : IvOk C R) {rnd : Option Nat} {sz : Nat} {ops : List Oper} {base : Nat} {W : T Nat × Nat} (hW : writers ops = some W) {tm : T AV} {S : AW} {s' : DS}
    (h : lfoldO (stepD C R rnd sz ops base (masks ops) W.1) ops { tm := tm, S := S, j := 0, pend := [], acts := [], reads := [] } = some s') :
    ∃ st kd, Tr C R rnd sz ops base W.1 st kd ∧ st 0 = { tm := tm, S := S, j := 0, pend := [], acts := [], reads := [] } ∧ st ops.length = s' := by
  obtain ⟨st, e0, en, hst⟩ := trace ops _ s' h
  have hj : ∀ i, i ≤ ops.length → (st i).j = i := by
    intro i
    induction i with
    | zero => intro _; rw [e0]
    | succ i ih =>
      intro hi
      have ho : ops[i]? = some ops[i] := by simp [show i < ops.length by omega]
      obtain ⟨_, _, k, hk⟩ := stepD_kind hR (hst i _ ho)
      rw [hk.tm.1, ih (by omega)]
  have hkd : ∀ i, ∃ k, ∀ o, ops[i]? = some o → IsK C R rnd sz ops base (masks ops) (st i) o (st (i + 1)) k := by
    intro i
    cases ho : ops[i]? with
    | none => exact ⟨.pure undefV, fun o h => by cases h⟩
    | some o =>
      obtain ⟨_, _, k, hk⟩ := stepD_kind hR (hst i o ho)
      exact ⟨k, fun o' h => by cases h; exact hk⟩
  obtain ⟨kd, hkd⟩ := Classical.axiomOfChoice hkd
  refine ⟨st, kd, ⟨by rw [e0]; exact ⟨rfl, rfl, rfl, rfl⟩, (writers_ok hW).2, fun i o ho => hkd i o ho, fun i o ho => ?_, fun i o ho => ?_⟩, e0, en⟩
  · obtain ⟨h1, _⟩ := stepD_kind hR (hst i o ho)
    rw [hj i (Nat.le_of_lt (List.getElem?_eq_some_iff.1 ho).1)] at h1
    exact h1
  · obtain ⟨_, h2, _⟩ := stepD_kind hR (hst i o ho)
    rw [hj i (Nat.le_of_lt (List.getElem?_eq_some_iff.1 ho).1)] at h2
    exact h2
section
variable {C : Cx} {R : Iv} {rnd : Option Nat} {sz : Nat} {ops : List Oper} {base : Nat} {W : T Nat} {st : Nat → DS} {kd : Nat → Kd}
theorem Tr.op (_h : Tr C R rnd sz ops base W st kd) {i : Nat} (hi : i < ops.length) : ∃ o, ops[i]? = some o := ⟨ops[i], by simp [hi]⟩
theorem Tr.jj (h : Tr C R rnd sz ops base W st kd) : ∀ i, i ≤ ops.length → (st i).j = i
  | 0, _ => h.zero.1
  | i + 1, hi => by
    obtain ⟨o, ho⟩ := h.op (show i < ops.length by omega)
    rw [(h.kind i o ho).tm.1, h.jj i (by omega)]
/-- A temporary is written by its writer alone. -/
theorem Tr.tmStep (h : Tr C R rnd sz ops base W st kd) {i t : Nat} (hi : i < ops.length) (hw : W.get t ≠ some i) : (st (i + 1)).tm.get t = (st i).tm.get t := by
  obtain ⟨o, ho⟩ := h.op hi
  obtain ⟨v, hp⟩ := (h.kind i o ho).tm.2
  rw [putT_get hp]
  rw [if_neg]
  intro hd
  exact hw ((h.wr t i).2 ⟨o, ho, hd⟩)
theorem Tr.tmSame (h : Tr C R rnd sz ops base W st kd) {t a : Nat} : ∀ b, a ≤ b → b ≤ ops.length → (∀ q, a ≤ q → q < b → W.get t ≠ some q) → (st b).tm.get t = (st a).tm.get t := by
  intro b
  induction b with
  | zero => intro hab _ _; have : a = 0 := by omega
            subst this; rfl
  | succ b ih =>
    intro hab hb hq
    by_cases e : a = b + 1
    · rw [e]
    · rw [h.tmStep (show b < ops.length by omega) (hq b (by omega) (by omega)), ih (by omega) (by omega) (fun q h1 h2 => hq q h1 (by omega))]
theorem Tr.before (h : Tr C R rnd sz ops base W st kd) {t i : Nat} (hi : i ≤ ops.length) (hw : ∀ q, W.get t = some q → i ≤ q) : (st i).tm.get t = (st 0).tm.get t :=
  h.tmSame i (Nat.zero_le _) hi fun q _ h2 hq => by have := hw q hq; omega
theorem Tr.after (h : Tr C R rnd sz ops base W st kd) {t i q : Nat} (hi : i ≤ ops.length) (hw : W.get t = some q) (hq : q < i) : (st ops.length).tm.get t = (st i).tm.get t :=
  h.tmSame ops.length hi (Nat.le_refl _) fun q' h1 _ hq' => by rw [hw] at hq'; cases hq'; omega
/-- Memory is changed by acts alone. -/
def isActK : Kd → Prop
  | .act _ _ => True
  | _ => False
theorem Tr.SStep (h : Tr C R rnd sz ops base W st kd) {i : Nat} (hi : i < ops.length) (hk : ¬ isActK (kd i)) : (st (i + 1)).S = (st i).S ∧ (st (i + 1)).acts = (st i).acts := by
  obtain ⟨o, ho⟩ := h.op hi
  have hK := h.kind i o ho
  cases hkd : kd i with
  | pure v => rw [hkd] at hK; obtain ⟨⟨tm, _, e⟩, _⟩ := hK; rw [e]; exact ⟨rfl, rfl⟩
  | rdr f v => rw [hkd] at hK; obtain ⟨_, _, _, _, _, _, tm, _, e⟩ := hK; rw [e]; exact ⟨rfl, rfl⟩
  | new g v ob => rw [hkd] at hK; obtain ⟨_, _, _, _, _, tm, _, e⟩ := hK; rw [e]; exact ⟨rfl, rfl⟩
  | act f v => rw [hkd] at hk; exact absurd trivial hk
theorem Tr.SSame (h : Tr C R rnd sz ops base W st kd) {a : Nat} : ∀ b, a ≤ b → b ≤ ops.length → (∀ q, a ≤ q → q < b → ¬ isActK (kd q)) → (st b).S = (st a).S := by
  intro b
  induction b with
  | zero => intro hab _ _; have : a = 0 := by omega
            subst this; rfl
  | succ b ih =>
    intro hab hb hq
    by_cases e : a = b + 1
    · rw [e]
    · rw [(h.SStep (show b < ops.length by omega) (hq b (by omega) (by omega))).1, ih (by omega) (by omega) (fun q h1 h2 => hq q h1 (by omega))]
/-- The acts that were done. -/
theorem Tr.acts (h : Tr C R rnd sz ops base W st kd) : ∀ i, i ≤ ops.length → ∀ q, q < i → isActK (kd q) → (⟨q, (st q).S⟩ : Ac) ∈ (st i).acts
  | 0, _, q, hq, _ => by omega
  | i + 1, hi, q, hq, hk => by
    obtain ⟨o, ho⟩ := h.op (show i < ops.length by omega)
    have hj := h.jj i (by omega)
    by_cases hk' : isActK (kd i)
    · have hK := h.kind i o ho
      cases hkd : kd i with
      | act f v =>
        rw [hkd] at hK
        obtain ⟨_, _, _, _, S1, _, _, tm, _, e⟩ := hK
        rw [e]
        simp only [List.mem_cons]
        by_cases e' : q = i
        · left; rw [hj, e']
        · right; exact h.acts i (by omega) q (by omega) hk
      | _ => rw [hkd] at hk'; exact absurd hk' (by simp [isActK])
    · rw [(h.SStep (show i < ops.length by omega) hk').2]
      refine h.acts i (by omega) q ?_ hk
      by_cases e' : q = i
      · subst e'; exact absurd hk hk'
      · omega
/-- The reads that were done. -/
theorem Tr.reads (h : Tr C R rnd sz ops base W st kd) : ∀ i, i ≤ ops.length → ∀ q f v, q < i → kd q = .rdr f v → (⟨q, f, (st q).tm, v⟩ : Rd) ∈ (st i).reads
  | 0, _, q, f, v, hq, _ => by omega
  | i + 1, hi, q, f, v, hq, hk => by
    obtain ⟨o, ho⟩ := h.op (show i < ops.length by omega)
    have hj := h.jj i (by omega)
    have hK := h.kind i o ho
    have old : q ≠ i → (⟨q, f, (st q).tm, v⟩ : Rd) ∈ (st i).reads := fun hne => h.reads i (by omega) q f v (by omega) hk
    cases hkd : kd i with
    | pure v' =>
      rw [hkd] at hK; obtain ⟨⟨tm, _, e⟩, _⟩ := hK; rw [e]
      exact old (by rintro rfl; rw [hk] at hkd; cases hkd)
    | rdr f' v' =>
      rw [hkd] at hK; obtain ⟨_, _, _, _, _, _, tm, _, e⟩ := hK; rw [e]
      simp only [List.mem_cons]
      by_cases e' : q = i
      · subst e'
        rw [hk] at hkd; cases hkd
        left; rw [hj]
      · exact .inr (old e')
    | new g v' ob =>
      rw [hkd] at hK; obtain ⟨_, _, _, _, _, tm, _, e⟩ := hK; rw [e]
      exact old (by rintro rfl; rw [hk] at hkd; cases hkd)
    | act f' v' =>
      rw [hkd] at hK; obtain ⟨_, _, _, _, S1, _, _, tm, _, e⟩ := hK; rw [e]
      exact old (by rintro rfl; rw [hk] at hkd; cases hkd)
end
end Go.Ev
