/- The evaluator's operations that change memory are true to the model. -/
import Derived.Test.YtdkkdfplkmfheaaGreatDoorEb
import Derived.Laws.NewFold
import Derived.Lib.UnsafeStr
set_option linter.unusedSimpArgs false
set_option linter.unusedVariables false
namespace Go.Ev
theorem isU8_ok {P : Program} {tt : T Ty} (hT : TTok P tt) {e : TypeId} (h : isU8 tt e = true) : P.underlying e = some (.int .u8) := by
  unfold isU8 at h
  cases hd : tt.get e with
  | none => simp [hd] at h
  | some d =>
    rw [hd, oel_some] at h
    cases hk : dIntT d.und with
    | none => simp [hk] at h
    | some k =>
      rw [hk, oel_some] at h
      rw [dIntT_some] at hk
      have := hT.und hd
      rw [hk] at this
      have e : k = .u8 := by cases k <;> simp_all [kcode]
      rw [this, e]
theorem byteOfV_some {a : AV} {b : Nat} : byteOfV a = some b ↔ a = .int .u8 (.ofNat b) ∧ b < 256 := by
  simp only [byteOfV, byteOfI, ob_some, tst_some, dInt_some, natOf_some, blt_iff, Option.some.injEq]
  constructor
  · rintro ⟨p, rfl, hk, m, hm, hlt, rfl⟩
    have e : p.1 = .u8 := by cases hp : p.1 <;> simp_all [kcode]
    exact ⟨by rw [e, hm], hlt⟩
  · rintro ⟨rfl, hlt⟩
    exact ⟨(.u8, .ofNat b), rfl, rfl, b, rfl, hlt, rfl⟩
theorem bytesOfR_nil : bytesOfR [] = some [] := rfl
theorem bytesOfR_cons (x : Nat × AV) (r : RL) : bytesOfR (x :: r) = ob (byteOfV x.2) fun b => ob (bytesOfR r) fun l => some (lrepl b l x.1) := rfl
theorem bytesOfR_some : ∀ {r : RL} {s : List Nat}, bytesOfR r = some s → rflat r = s.map (fun b => AV.int .u8 (.ofNat b)) ∧ ∀ x ∈ s, x < 256
  | [], s, h => by rw [bytesOfR_nil] at h; cases h; simp [rflat_nil]
  | (n, a) :: r, s, h => by
    simp only [bytesOfR_cons, ob_some, byteOfV_some, Option.some.injEq] at h
    obtain ⟨b, ⟨rfl, hb⟩, l, hl, rfl⟩ := h
    obtain ⟨h1, h2⟩ := bytesOfR_some hl
    rw [rflat_cons, lrepl_eq, h1]
    refine ⟨by simp, fun x hx => ?_⟩
    simp only [List.mem_append, List.mem_replicate] at hx
    rcases hx with ⟨_, rfl⟩ | hx
    · exact hb
    · exact h2 x hx
theorem CR_bytes {E : Env} {s : List Nat} {vs : List Value} (h : CR E (s.map (fun b => AV.int .u8 (.ofNat b))) vs) : vs = s.map (fun b => Value.int .u8 (.ofNat b)) := by
  apply List.ext_getElem?
  intro i
  have hl := h.1
  rw [List.length_map] at hl
  rcases Nat.lt_or_ge i s.length with hi | hi
  · obtain ⟨v, h1, h2, _⟩ := h.get (i := i) (x := .int .u8 (.ofNat s[i])) (by simp [hi])
    simp only [VR] at h2
    rw [h1, h2]
    simp [hi]
  · rw [List.getElem?_eq_none (by omega), List.getElem?_eq_none (by simp; omega)]
theorem bytes_fold : ∀ (s : List Nat) (b : ByteArray), (s.map (fun (n : Nat) => (Int.ofNat n))).foldl (fun r n => r.push (UInt8.ofNat n.toNat)) b = ByteArray.mk (b.data ++ (s.map UInt8.ofNat).toArray)
  | [], b => by simp
  | x :: s, b => by
    rw [List.map_cons, List.foldl_cons, bytes_fold s]
    congr 1
    apply Array.toList_inj.1
    simp [ByteArray.push]
theorem bytesToStr_sound {P : Program} {E : Env} {S : AW} {w : World} (hS : Sim E S w) {a v : AV} {x : Value} (h : bytesToStr S a = some v) (hx : VR E a x) : ∃ y, (Conv.bytesToString x).run P w = .ok y w ∧ VR E v y := by
  unfold bytesToStr at h
  have hempty : VR E (.str []) (.string ByteArray.empty) := by
    simp only [VR, bytesV]; exact ⟨rfl, fun x hx => by simp at hx⟩
  cases hs : dSl a with
  | none =>
    simp only [hs, oel_none, tst_some, isNsl_iff, Option.some.injEq] at h
    obtain ⟨rfl, rfl⟩ := h
    simp only [VR] at hx
    subst hx
    exact ⟨_, rfl, hempty⟩
  | some s =>
    rw [hs, oel_some, iteB_eq] at h
    rw [dSl_some] at hs
    subst hs
    obtain ⟨l, k, hl, rfl, hle⟩ := sl_val hx
    by_cases h0 : s.len = 0
    · rw [if_pos (by rw [h0]; rfl)] at h
      cases h
      refine ⟨.string .empty, ?_, hempty⟩
      rw [h0]
      have := run_bytesToString (P := P) w ⟨l.blk, l.off + s.off, none⟩ 0 k [] (by simp [loadCells, loadCellsFrom])
      simpa using this
    · rw [if_neg (by rw [beq_of_ne h0]; simp)] at h
      simp only [ob_some, Option.some.injEq] at h
      obtain ⟨rs, hrs, r, hr, b, hb, rfl⟩ := h
      obtain ⟨l', pre, mid, post, e, fr, hl', hblk, hpre, hc⟩ := rcells_sound hS hrs
      rw [hl] at hl'; cases hl'
      obtain ⟨h1, h2⟩ := rext_some hr
      obtain ⟨h3, h4⟩ := bytesOfR_some hb
      have hcc := (hc.drop s.off).take s.len
      rw [← h1, h3] at hcc
      have hv := CR_bytes hcc
      have hlen : ((mid.drop s.off).take s.len).length = s.len := by rw [hv, ← h2, h3]; simp
      have hload := run_loadMid (P := P) hblk s.off s.len hlen
      rw [hpre, hv] at hload
      have := run_bytesToString (P := P) w ⟨l.blk, l.off + s.off, none⟩ s.len k (b.map fun (n : Nat) => Int.ofNat n) (by rw [hload]; simp)
      refine ⟨_, this, ?_⟩
      rw [bytes_fold]
      simp only [VR, bytesV]
      refine ⟨?_, h4⟩
      congr 2
      simp [ByteArray.empty, ByteArray.emptyWithCapacity]
      try rfl
theorem liesAt_self {P : Program} {u : TypeId} (hs : P.cellsOf u ≠ 0) : liesAt P P.depth u 1 0 u 1 = true := by
  have hd : P.depth = (2 * (P.types.size + Made.depth) + 1) + 1 := rfl
  rw [hd]
  simp only [liesAt, Bool.or_eq_true]
  left
  rw [hd]
  simp [rowAt, hs, sameLayout]
theorem vConv_ok (s d : TypeId) (x : Operand) : VHok (vConv s d x) (.convert s d x) := by
  intro C E S w tm act o v ho hA h
  simp only [vConv, convV, ob_some] at h
  obtain ⟨a, ha, ds, hds, dd, hdd, h⟩ := h
  have hx := hA.ev ha
  have h1 := hA.ty.runU hds
  have h2 := hA.ty.runU hdd
  suffices hh : ∃ y, (convert s d (act.eval x)).run C.P w = .ok y w ∧ VR E v y by
    obtain ⟨y, hy, hv⟩ := hh
    exact ⟨y, by simp only [execOp, ho]; exact run_v hy, hv⟩
  cases hi : dInt a with
  | some p =>
    simp only [hi, oel_some, ob_some, dIntT_some, wI, Option.some.injEq] at h
    obtain ⟨k, hk, rfl⟩ := h
    rw [dInt_some] at hi
    subst hi
    simp only [VR] at hx
    rw [hk] at h2
    refine ⟨.int k (k.wrap p.2), ?_, by simp [VR, wrapI_eq]⟩
    unfold convert
    simp only [Sem.run_bind, h1, h2, Result.andThen_ok, hx, Conv.intToInt, Sem.run_pure]
  | none =>
    rw [hi, oel_none, iteB_eq] at h
    by_cases hst : isStrT dd.und = true
    · rw [if_pos hst] at h
      rw [isStrT_iff] at hst
      rw [hst] at h2
      cases hs : dStr a with
      | some t =>
        simp only [hs, oel_some, tst_some, isStrT_iff, Option.some.injEq] at h
        obtain ⟨hss, rfl⟩ := h
        rw [dStr_some] at hs
        subst hs
        rw [hss] at h1
        refine ⟨act.eval x, ?_, hx⟩
        simp only [VR] at hx
        unfold convert
        simp only [Sem.run_bind, h1, h2, Result.andThen_ok, hx.1, bytesV, Sem.run_pure]
      | none =>
        simp only [hs, oel_none, ob_some, tst_some, dSliceT_some] at h
        obtain ⟨e, he, hu8, h⟩ := h
        rw [he] at h1
        obtain ⟨y, hy, hv⟩ := bytesToStr_sound (P := C.P) hA.sim h hx
        refine ⟨y, ?_, hv⟩
        have hsl : ∃ p n c, act.eval x = .slice p n c := by
          unfold bytesToStr at h
          cases hq : dSl a with
          | none =>
            simp only [hq, oel_none, tst_some, isNsl_iff] at h
            obtain ⟨rfl, _⟩ := h
            simp only [VR] at hx
            exact ⟨_, _, _, hx⟩
          | some q =>
            rw [dSl_some] at hq
            subst hq
            obtain ⟨l, k, _, hx, _⟩ := sl_val hx
            exact ⟨_, _, _, hx⟩
        obtain ⟨p, n, c, hsl⟩ := hsl
        rw [hsl] at hy ⊢
        have hs' : C.P.underlying s = some (.slice e) := by rw [hA.ty.und hds, he]
        have hd' : C.P.underlying d = some .string := by rw [hA.ty.und hdd, hst]
        rw [run_convert_bytes_string w s d e p n c hs' (isU8_ok hA.ty hu8) hd']
        exact hy
    · rw [if_neg hst] at h
      unfold convUnsafe at h
      rw [iteB_eq] at h
      by_cases hub : isUnsafeT dd.und = true
      · rw [if_pos hub] at h
        rw [isUnsafeT_iff] at hub
        simp only [ob_some, dPtrT_some] at h
        obtain ⟨t, ht, h⟩ := h
        have hs' : C.P.underlying s = some (.pointer t) := by rw [hA.ty.und hds, ht]
        have hd' : C.P.underlying d = some .unsafePointer := by rw [hA.ty.und hdd, hub]
        cases hp : dPtr a with
        | none =>
          simp only [hp, oel_none, tst_some, isNptr_iff, Option.some.injEq] at h
          obtain ⟨rfl, rfl⟩ := h
          refine ⟨act.eval x, ?_, hx⟩
          simp only [VR] at hx
          rw [hx]
          simp [convert, run_underlying hs', run_underlying hd', Conv.unsafePointer]
        | some p =>
          simp only [hp, oel_some, ob_some, tst_some, tsize_some, notB_eq, Bool.not_eq_true', Option.some.injEq] at h
          obtain ⟨z, ⟨dt, hdt, rfl⟩, hz, rs, hrs, q, hq, rfl⟩ := h
          rw [dPtr_some] at hp
          subst hp
          obtain ⟨l', pre, mid, post, e, fr, hl', hblk, hpre, hc⟩ := rcells_sound hA.sim hrs
          refine ⟨act.eval x, ?_, hx⟩
          simp only [VR] at hx
          obtain ⟨l, hl, hx⟩ := hx
          rw [hl] at hl'; cases hl'
          rw [hx]
          obtain ⟨inf, hinf, _, hsz, _⟩ := hA.ty.ok _ _ hdt
          rw [rget_eq] at hq
          have hlt : p.2 < mid.length := by rw [← hc.1]; exact (List.getElem?_eq_some_iff.1 hq).1
          exact Go.Lib.run_to_unsafe w (e := e) (cells := (pre ++ mid ++ post).length) _ hs' hd' hinf (by rw [hsz]; exact ne_of_beq hz) (by simp [World.shape?, hblk]) (by simp; omega)
      · rw [if_neg hub, tst_some, isUnsafeT_iff] at h
        obtain ⟨hua, h⟩ := h
        simp only [ob_some, dPtrT_some] at h
        obtain ⟨u, hu, h⟩ := h
        have hs' : C.P.underlying s = some .unsafePointer := by rw [hA.ty.und hds, hua]
        have hd' : C.P.underlying d = some (.pointer u) := by rw [hA.ty.und hdd, hu]
        cases hp : dPtr a with
        | none =>
          simp only [hp, oel_none, tst_some, isNptr_iff, Option.some.injEq] at h
          obtain ⟨rfl, rfl⟩ := h
          refine ⟨act.eval x, ?_, hx⟩
          simp only [VR] at hx
          rw [hx]
          simp [convert, run_underlying hs', run_underlying hd', Conv.unsafePointer]
        | some p =>
          simp only [hp, oel_some, ob_some, tst_some, tsize_some, notB_eq, Bool.not_eq_true', Option.some.injEq] at h
          obtain ⟨h0, z, ⟨dt, hdt, rfl⟩, hz, ob', hob, row, hrow, hop, hre, hlen, rfl⟩ := h
          rw [dPtr_some] at hp
          subst hp
          have h0 := eq_of_beq h0
          have hre := eq_of_beq hre
          have hlen := eq_of_beq hlen
          rw [rlen_eq] at hlen
          have hop : row.op = none := by rw [isSomeB_eq] at hop; simpa using hop
          have hob' : ob' = .cells row.e row.rs row.op := by cases ob' <;> simp [dRow] at hrow; subst hrow; rfl
          subst hob'
          refine ⟨act.eval x, ?_, hx⟩
          simp only [VR] at hx
          obtain ⟨l, hl, hx⟩ := hx
          obtain ⟨l', hl', pre, mid, post, fr, hblk, hpre, hc, _, hop'⟩ := hA.sim.obj _ _ hob
          rw [hl] at hl'; cases hl'
          rw [hop] at hop'
          obtain ⟨rfl, rfl⟩ := hop'
          rw [hx]
          obtain ⟨inf, hinf, _, hsz, _⟩ := hA.ty.ok _ _ hdt
          have hz := ne_of_beq hz
          have hcells : C.P.cellsOf u = dt.size := by simp [Program.cellsOf, hinf, hsz]
          have hml : mid.length = dt.size := by rw [← hc.1, hlen]
          refine Go.Lib.run_from_unsafe w (e := u) (cells := dt.size) _ hs' hd' hinf (by simp [World.shape?, hblk, hre, hml]) ?_
          rw [hcells, Nat.div_self (by omega)]
          have : l.off + p.2 = 0 := by rw [h0, ← hpre]; rfl
          simp only [this]
          exact liesAt_self (by rw [hcells]; exact hz)
end Go.Ev
namespace Go.Ev
theorem rsingle_some {rs : RL} {x : Nat × AV} : rsingle rs = some x ↔ rs = [x] := by
  cases rs with
  | nil => simp [rsingle]
  | cons y r => cases r <;> simp [rsingle]
theorem range_mod (zl : List Value) : ∀ n : Nat, (List.range (n * zl.length)).map (fun i => zl.toArray[i % zl.toArray.size]!) = (List.replicate n zl).flatten
  | 0 => by simp
  | n + 1 => by
    rw [Nat.succ_mul, List.range_add, List.map_append, range_mod zl n, List.replicate_succ', List.flatten_append]
    congr 1
    rw [List.map_map]
    apply List.ext_getElem
    · simp
    · intro i h1 h2
      simp only [List.length_map, List.length_range] at h1
      simp only [List.getElem_map, List.getElem_range, Function.comp_apply, List.size_toArray, Nat.mul_add_mod_self_right, Nat.mod_eq_of_lt h1]
      simp [h1]
theorem CR_flat {E : Env} {a : List AV} {p : List Value} (h : CR E a p) : ∀ n : Nat, CR E (List.replicate n a).flatten (List.replicate n p).flatten
  | 0 => CR.nil E
  | n + 1 => by
    rw [List.replicate_succ, List.replicate_succ, List.flatten_cons, List.flatten_cons]
    exact h.append (CR_flat h n)
theorem flat_one {α : Type} (n m : Nat) (a : α) : (List.replicate n (List.replicate m a)).flatten = List.replicate (n * m) a := by
  induction n with
  | zero => simp
  | succ n ih => rw [List.replicate_succ, List.flatten_cons, ih, List.replicate_append_replicate, Nat.succ_mul, Nat.add_comm]
theorem zeros_sound {P : Program} {tt : T Ty} (hT : TTok P tt) {e : TypeId} {n : Nat} {z : RL} (h : zerosV tt e n = some z) :
    ∃ (d : Ty) (zv : Value) (zl : List Value), tt.get e = some d ∧ (∀ w, (zeroValue e).run P w = .ok zv w) ∧ zv.cells = zl.toArray ∧ zl.length = d.size ∧ ∀ E, CR E (rflat z) (List.replicate n zl).flatten := by
  simp only [zerosV, ob_some, tst_some] at h
  obtain ⟨d, hd, a, ha, cs, hcs, hs, h⟩ := h
  have hs := eq_of_beq hs
  rw [rlen_eq] at hs
  obtain ⟨zv, h1, h2⟩ := hT.runZ hd ha
  obtain ⟨zl, h3, h4⟩ := cellsOfV_sound (h2 ⟨fun _ => none, fun _ => undef⟩) hcs
  have hc : ∀ E, CR E (rflat cs) zl := by
    intro E
    obtain ⟨zl', h3', h4'⟩ := cellsOfV_sound (h2 E) hcs
    have : zl = zl' := by rw [h3] at h3'; simpa using h3'
    rw [this]; exact h4'
  refine ⟨d, zv, zl, hd, h1, h3, by rw [← h4.1]; exact hs, fun E => ?_⟩
  have e : rflat z = (List.replicate n (rflat cs)).flatten := by
    cases hr : rsingle cs with
    | none => rw [hr, oel_none] at h; cases h; exact rflat_rrep cs n
    | some x =>
      rw [hr, oel_some] at h
      cases h
      rw [rsingle_some] at hr
      subst hr
      obtain ⟨m, a⟩ := x
      rw [rflat_cons, rflat_cons, rflat_nil, List.append_nil, List.append_nil, flat_one]
      rfl
  rw [e]
  exact CR_flat (hc E) n
/-- A block that an operation has made. -/
structure Fresh (E : Env) (w : World) (id : Nat) (ob : AObj) (l : Loc) (w' : World) : Prop where
  os : w'.os = w.os
  tape : w'.tape = w.tape
  output : w'.output = w.output
  size : w.heap.size ≤ w'.heap.size
  keep : ∀ b, b < w.heap.size → w'.heap[b]? = w.heap[b]?
  or_ : OR (E.put id l) w' l ob
  blk : live ob → w.heap.size ≤ l.blk
def NHok (f : NH) (op : Op) : Prop := ∀ {C : Cx} {E : Env} {S : AW} {w : World} {tm : T AV} {act : Act} {o : Oper} {v : AV} {ob : AObj} {id : Nat}, o.op = op → At C E S w tm act → E.loc id = none → f C tm id = some (v, ob) →
  ∃ x w' l, (execOp act.eval o).run C.P w = .ok (.value x) w' ∧ VR (E.put id l) v x ∧ Fresh E w id ob l w'
theorem run_v' {P : Program} {s : Sem Value} {x : Value} {w w' : World} (h : s.run P w = .ok x w') : (do pure (.value (← s)) : Sem Next).run P w = .ok (.value x) w' := by
  simp only [Sem.run_bind, h, Result.andThen_ok, Sem.run_pure]
theorem alloc_get (w : World) (o : Obj) : (w.alloc o).heap[w.heap.size]? = some o := by
  show (w.heap.push o)[w.heap.size]? = _
  simp
theorem alloc_old (w : World) (o : Obj) {b : Nat} (h : b < w.heap.size) : (w.alloc o).heap[b]? = w.heap[b]? := by
  show (w.heap.push o)[b]? = _
  simp [Array.getElem?_push, Nat.ne_of_lt h]
theorem alloc_size (w : World) (o : Obj) : (w.alloc o).heap.size = w.heap.size + 1 := by
  show (w.heap.push o).size = _
  simp
theorem Fresh.alloc {E : Env} {w : World} {id c : Nat} {ob : AObj} {o : Obj} (h : ∀ w', w'.heap[w.heap.size]? = some o → OR (E.put id ⟨w.heap.size, 0, c⟩) w' ⟨w.heap.size, 0, c⟩ ob) : Fresh E w id ob ⟨w.heap.size, 0, c⟩ (w.alloc o) :=
  ⟨rfl, rfl, rfl, by rw [alloc_size]; omega, fun b hb => alloc_old w o hb, h _ (alloc_get w o), fun _ => Nat.le_refl _⟩
theorem Fresh.cells {E : Env} {w : World} {id c : Nat} {e : TypeId} {rs : RL} {vs : List Value} (hE : E.loc id = none) (h : CR E (rflat rs) vs) : Fresh E w id (.cells e rs none) ⟨w.heap.size, 0, c⟩ (w.alloc (.cells vs.toArray e)) := by
  refine Fresh.alloc fun w' hw => ?_
  refine ⟨[], vs, [], (0, 0), by simpa using hw, rfl, h.mono (Env.put_le hE), .inl rfl, rfl, rfl⟩
theorem ptr_put {E : Env} {id : Nat} {l : Loc} : VR (E.put id l) (.ptr id 0) (.pointer (some ⟨l.blk, l.off, none⟩)) := by
  simp only [VR]; exact ⟨l, Env.put_same E id l, rfl⟩
theorem nAlloc_ok (t : TypeId) : NHok (nAlloc t) (.alloc t) := by
  intro C E S w tm act o v ob id ho hA hE h
  simp only [nAlloc, ob_some, Option.some.injEq, Prod.mk.injEq] at h
  obtain ⟨d, hd, z, hz, cs, hcs, rfl, rfl⟩ := h
  obtain ⟨zv, h1, h2⟩ := hA.ty.runZ hd hz
  obtain ⟨vs, h3, h4⟩ := cellsOfV_sound (h2 E) hcs
  refine ⟨_, _, _, ?_, ptr_put (l := ⟨w.heap.size, 0, 0⟩), Fresh.cells hE h4⟩
  simp only [execOp, ho]
  refine run_v' ?_
  unfold Instr.alloc
  simp only [Sem.run_bind, h1, Result.andThen_ok, newVar, newRow, run_newObj_alloc, Sem.run_pure, h3]
theorem nBox_ok (t : TypeId) (x : Operand) : NHok (nBox t x) (.box t x) := by
  intro C E S w tm act o v ob id ho hA hE h
  simp only [nBox, ob_some, Option.some.injEq, Prod.mk.injEq] at h
  obtain ⟨a, ha, cs, hcs, rfl, rfl⟩ := h
  obtain ⟨vs, h3, h4⟩ := cellsOfV_sound (hA.ev ha) hcs
  refine ⟨_, _, _, ?_, ptr_put (l := ⟨w.heap.size, 0, 0⟩), Fresh.cells hE h4⟩
  simp only [execOp, ho]
  refine run_v' ?_
  unfold Instr.box
  simp only [Sem.run_bind, Result.andThen_ok, newVar, newRow, run_newObj_alloc, Sem.run_pure, h3]
theorem sl_put {E : Env} {id c n : Nat} {l : Loc} (h : n ≤ c) (h0 : l.off = 0) : VR (E.put id l) (.sl id 0 n (.ex c)) (.slice (some ⟨l.blk, 0, none⟩) n c) := by
  simp only [VR]; exact ⟨l, Env.put_same E id l, h, by rw [h0]⟩
theorem sliceElem_some {tt : T Ty} {t e : TypeId} : sliceElem tt t = some e ↔ ∃ d, tt.get t = some d ∧ d.und = .slice e := by
  simp only [sliceElem, ob_some, dSliceT_some]
theorem nBuildSlice_ok (t : TypeId) (n : Nat) (ps : Array (Nat × Operand)) : NHok (nBuildSlice t n ps) (.buildSlice t n ps) := by
  intro C E S w tm act o v ob id ho hA hE h
  simp only [nBuildSlice, ob_some, tst_some, sliceElem_some, tsize_some, ble_iff, Option.some.injEq, Prod.mk.injEq] at h
  obtain ⟨e, ⟨dt, hdt, hs⟩, s, ⟨d, hd, rfl⟩, z, hz, vs, hvs, hle, cs, hcs, rfl, rfl⟩ := h
  obtain ⟨d', zv, zl, hd', hz1, hz2, hz3, hz4⟩ := zeros_sound hA.ty hz
  rw [hd] at hd'; cases hd'
  obtain ⟨l, h1, h2⟩ := fillV_sound (place' := fun i => some (i * d.size, d.size)) (fun i q h => h) hcs (hA.parts hvs) (hz4 E)
  have hfun : (fun (x : Nat × Operand) => match x with | (i, x) => (i, act.eval x)) = fun x => (x.fst, act.eval x.snd) := rfl
  rw [hfun] at h1
  have hU := hA.ty.runU hdt
  rw [hs] at hU
  refine ⟨_, _, _, ?_, sl_put (l := ⟨w.heap.size, 0, 0⟩) (Nat.le_refl n) rfl, Fresh.cells hE h2⟩
  simp only [execOp, ho]
  refine run_v' ?_
  unfold Instr.buildSlice
  have hlt : ¬ (n * d.size > 2 ^ 24) := by have : n * d.size ≤ 65536 := hle; omega
  have hfill : ∀ z0 : Array Value, (n * d.size ≠ 0 → z0 = zl.toArray) → Instr.fill (fun i => some (i * d.size, d.size)) ((Array.range (n * d.size)).map (z0[· % z0.size]!)) (ps.map fun x => (x.fst, act.eval x.snd)).toList = some l.toArray := by
    intro z0 hz0
    rw [← h1]
    congr 1
    by_cases h0 : n * d.size = 0
    · rw [h0]
      have : (List.replicate n zl).flatten.length = n * d.size := by simp [hz3]
      have : (List.replicate n zl).flatten = [] := List.eq_nil_of_length_eq_zero (by rw [this, h0])
      rw [this]; simp
    · rw [hz0 h0, ← hz3, ← range_mod]
      apply Array.toList_inj.1
      simp
  by_cases h0 : n * d.size = 0
  · have := hfill #[] (fun h => absurd h0 h)
    rw [h0] at this
    have hlt0 : ¬ (0 > 2 ^ 24) := by omega
    simp only [Sem.run_bind, hU, hA.ty.runS hd, Result.andThen_ok, h0, hlt0, if_false, if_true, Sem.run_pure, this, newRow, run_newObj_alloc]
  · have := hfill zl.toArray (fun _ => rfl)
    simp only [Sem.run_bind, hU, hA.ty.runS hd, Result.andThen_ok, hlt, if_false, h0, hz1, Sem.run_pure, hz2, this, newRow, run_newObj_alloc]
theorem nMakeMap_ok (t : TypeId) (r : Option Operand) : NHok (nMakeMap t r) (.makeMap t r) := by
  intro C E S w tm act o v ob id ho hA hE h
  have hF : Fresh E w id (.map [] 0) ⟨w.heap.size, 0, 0⟩ (w.alloc (.map #[] 0)) := Fresh.alloc fun w' hw => ⟨[], hw, rfl, fun i e m h => by simp at h⟩
  have hV : VR (E.put id ⟨w.heap.size, 0, 0⟩) (.map id) (.map (some w.heap.size)) := by simp only [VR]; exact ⟨_, Env.put_same E id _, rfl⟩
  cases r with
  | none =>
    simp only [nMakeMap, oel_none, Option.some.injEq, Prod.mk.injEq] at h
    obtain ⟨rfl, rfl⟩ := h
    refine ⟨_, _, _, ?_, hV, hF⟩
    simp only [execOp, ho]
    refine run_v' ?_
    simp [Instr.makeMap]
  | some x =>
    simp only [nMakeMap, oel_some, ob_some, tst_some, Option.some.injEq, Prod.mk.injEq] at h
    obtain ⟨a, ha, p, hp, hm, rfl, rfl⟩ := h
    rw [dInt_some] at hp
    subst hp
    have hx := hA.ev ha
    simp only [VR] at hx
    have hu : ∃ k e, ∀ w, (underlying t).run C.P w = .ok (.map k e) w := by
      unfold isMapT at hm
      cases hd : C.tt.get t with
      | none => simp [hd] at hm
      | some d =>
        rw [hd, oel_some, isSomeB_eq, Option.isSome_iff_exists] at hm
        obtain ⟨q, hq⟩ := hm
        rw [dMapT_some] at hq
        have := hA.ty.runU hd
        rw [hq] at this
        exact ⟨_, _, this⟩
    obtain ⟨k, e, hu⟩ := hu
    refine ⟨_, _, _, ?_, hV, hF⟩
    simp only [execOp, ho]
    refine run_v' ?_
    simp [Instr.makeMap, hu, hx, asInt, asIntOf]
theorem nMakeSlice_ok (t : TypeId) (lx cx : Operand) : NHok (nMakeSlice t lx cx) (.makeSlice t lx cx) := by
  intro C E S w tm act o v ob id ho hA hE h
  simp only [nMakeSlice, ob_some, tst_some, sliceElem_some, ble_iff, Option.some.injEq, Prod.mk.injEq] at h
  obtain ⟨e, ⟨dt, hdt, hs⟩, d, hd, a, ha, l, hl, b, hb, c, hc, hlc, hcc, hbb, z, hz, rfl, rfl⟩ := h
  obtain ⟨d', zv, zl, hd', hz1, hz2, hz3, hz4⟩ := zeros_sound hA.ty hz
  rw [hd] at hd'; cases hd'
  obtain ⟨jl, hjl⟩ := dNat_VR hl (hA.ev ha)
  obtain ⟨jc, hjc⟩ := dNat_VR hc (hA.ev hb)
  have hU := hA.ty.runU hdt
  rw [hs] at hU
  obtain ⟨inf, hB1, hB2, hB3⟩ := hA.ty.runB hd w
  refine ⟨_, _, _, ?_, sl_put (l := ⟨w.heap.size, 0, 0⟩) hlc rfl, Fresh.cells hE (hz4 E)⟩
  simp only [execOp, ho]
  refine run_v' ?_
  have w1 : ∀ m : Nat, m ≤ 1048576 → IntKind.i64.wrap (m : Int) = m := fun m hm => by
    have h1 := wrapN_eq .i64 m
    unfold wrapN at h1
    rw [show Nat.ble m (pmax .i64) = true from ble_iff.2 (Nat.le_trans hm (by decide)), iteB_true] at h1
    exact h1.symm
  have hprod : d.bytes * c ≤ 1048576 * 1048576 := Nat.mul_le_mul hbb hcc
  have t1 : ¬ ((d.bytes : Int) * (c : Int) > 2 ^ 48) := by
    have : ((d.bytes * c : Nat) : Int) ≤ ((1048576 * 1048576 : Nat) : Int) := Int.ofNat_le.2 hprod
    rw [Int.natCast_mul] at this
    have e : ((1048576 * 1048576 : Nat) : Int) ≤ 2 ^ 48 := by decide
    exact Int.not_lt.2 (Int.le_trans this e)
  have hfill : ∀ z0 : Array Value, (c * d.size ≠ 0 → z0 = zl.toArray) → (Array.range (c * d.size)).map (z0[· % z0.size]!) = (List.replicate c zl).flatten.toArray := by
    intro z0 hz0
    by_cases h0 : c * d.size = 0
    · rw [h0]
      have : (List.replicate c zl).flatten.length = c * d.size := by simp [hz3]
      have : (List.replicate c zl).flatten = [] := List.eq_nil_of_length_eq_zero (by rw [this, h0])
      rw [this]; simp
    · rw [hz0 h0, ← hz3, ← range_mod]
      apply Array.toList_inj.1
      simp
  unfold Instr.makeSlice
  have hroom : ∀ w, (askRoom (c * d.bytes)).run C.P w = .ok () w := fun w => by
    have : ¬ (c * d.bytes > roomBytes) := by unfold roomBytes; rw [Nat.mul_comm]; omega
    simp [askRoom, this]
  simp only [Sem.run_bind, hU, Result.andThen_ok, hjl, hjc, asInt, asIntOf, Sem.run_pure, hB1, hB2, Int.ofNat_eq_natCast, w1 l (by omega), w1 c hcc, t1, decide_false, Bool.or_false, Int.not_lt.2 (Int.natCast_nonneg _), Bool.false_or,
    gt_iff_lt, Int.not_lt.2 (Int.ofNat_le.2 hlc), Bool.false_eq_true, if_false, Int.toNat_natCast, hroom, hA.ty.runS hd]
  by_cases h0 : c * d.size = 0
  · have := hfill #[] (fun h => absurd h0 h)
    rw [h0] at this
    simp only [h0, if_true, Sem.run_pure, Result.andThen_ok, this, newRow, Sem.run_bind, run_newObj_alloc]
  · have := hfill zl.toArray (fun _ => rfl)
    simp only [h0, if_false, Sem.run_bind, hz1, hz2, Sem.run_pure, Result.andThen_ok, this, newRow, run_newObj_alloc]
end Go.Ev
namespace Go.Ev
theorem isRest_iff {c : Cap} : isRest c = true ↔ ∃ k, c = .rest k := by cases c <;> simp [isRest]
theorem nSliceEnd_ok (t : TypeId) (x : Operand) (lo hi mx : Option Operand) : NHok (nSliceEnd t x lo hi mx) (.slice t x lo hi mx) := by
  intro C E S w tm act o v ob id ho hA hE h
  simp only [nSliceEnd, ob_some, tst_some, Option.some.injEq, Prod.mk.injEq] at h
  obtain ⟨a, ha, l, hl, hh, hhi, m, hm, hs, rfl, rfl⟩ := h
  have kl := hA.optOk hl
  have kh := hA.optOk hhi
  have km := hA.optOk hm
  unfold sliceEnd at hs
  cases hd : dSl a with
  | none => simp [hd] at hs
  | some s =>
    rw [hd, oel_some] at hs
    cases he : sliceElem C.tt t with
    | none => simp [he] at hs
    | some e =>
      rw [he, oel_some] at hs
      simp only [andB_eq, notB_eq, Bool.and_eq_true, Bool.not_eq_true', isSomeB_eq, Option.isSome_iff_exists, isRest_iff] at hs
      obtain ⟨⟨z, hz⟩, ⟨k, hk⟩, hmn, hs⟩ := hs
      have hmn : m = none := by cases m <;> simp_all
      subst hmn
      have hvm : mx.map act.eval = none := by
        rcases km with ⟨_, h⟩ | ⟨_, _, h, _⟩
        · exact h
        · cases h
      cases h1 : optN s.len 0 s.len hh with
      | none => simp [h1] at hs
      | some h' =>
        rw [h1, oel_some] at hs
        cases h2 : optN 0 0 h' l with
        | none => simp [h2] at hs
        | some l' =>
          rw [h2, oel_some] at hs
          have hs := eq_of_beq hs
          subst hs
          have b1 := optN_le h1 (Nat.le_refl _)
          have b2 := optN_le h2 (Nat.zero_le _)
          have e1 : h' = s.len := by omega
          subst e1
          rw [dSl_some, hk] at hd
          subst hd
          have hx := hA.ev ha
          simp only [VR] at hx
          obtain ⟨lc, hlc, hle, hx⟩ := hx
          obtain ⟨dt, hdt, hdu⟩ := sliceElem_some.1 he
          obtain ⟨d2, hd2, rfl⟩ := tsize_some.1 hz
          have hU := hA.ty.runU hdt
          rw [hdu] at hU
          refine ⟨.slice (some (if lc.cap - k = s.len then ⟨lc.blk, lc.off + s.off, none⟩ else (⟨lc.blk, lc.off + s.off, none⟩ : Addr).add (s.len * d2.size))) 0 (lc.cap - k - s.len), w,
            ⟨lc.blk, if lc.cap - k = s.len then lc.off + s.off else lc.off + s.off + s.len * d2.size, lc.cap - k - s.len⟩, ?_, ?_, ?_⟩
          · simp only [execOp, ho, hx]
            refine run_v' ?_
            unfold Instr.sliceAt
            simp only [Sem.run_bind, hU, Result.andThen_ok]
            unfold Instr.slice
            simp only [Sem.run_bind, hU, Result.andThen_ok, hvm, run_bounds_rest (P := C.P) true (show s.len ≤ lc.cap - k by omega) h1 h2 kl kh, hA.ty.runS hd2, Sem.run_pure, Option.map_some, Nat.sub_self]
            split <;> rfl
          · simp only [VR]
            refine ⟨_, Env.put_same E id _, by omega, ?_⟩
            split <;> simp [addr_add]
          · exact ⟨rfl, rfl, rfl, Nat.le_refl _, fun b hb => rfl, trivial, fun h => absurd h (by simp [live])⟩
/-- Memory goes on: the blocks that are held are as they were. -/
theorem Sim.keep {E : Env} {S : AW} {w w' : World} (h : Sim E S w) (hk : ∀ b, b < w.heap.size → w'.heap[b]? = w.heap[b]?) : Sim E S w' := by
  refine ⟨fun i o hi => ?_, h.inj, h.new, h.glob⟩
  obtain ⟨l, hl, ho⟩ := h.obj i o hi
  refine ⟨l, hl, ?_⟩
  by_cases hb : l.blk < w.heap.size
  · exact ho.heap (hk _ hb)
  · have hn : w.heap[l.blk]? = none := by simp; omega
    cases o <;> simp only [OR] at ho ⊢ <;> simp_all
theorem OR.blk_lt {E : Env} {w : World} {l : Loc} {o : AObj} (h : OR E w l o) (hl : live o) : l.blk < w.heap.size := by
  have : w.heap[l.blk]? ≠ none := by
    intro hn
    cases o <;> simp only [OR] at h <;> simp_all [live]
  simpa using this
/-- A new name for a place. -/
theorem Sim.put {E : Env} {S : AW} {w : World} (h : Sim E S w) {id : Nat} (l : Loc) (hE : E.loc id = none) {n : Nat} (hn : S.next ≤ n) (hid : id < n) : Sim (E.put id l) { heap := S.heap, next := n } w := by
  have hno : ∀ i o, S.heap.get i = some o → i ≠ id := by
    rintro i o hi rfl
    obtain ⟨l', hl', _⟩ := h.obj i o hi
    rw [hE] at hl'; cases hl'
  refine ⟨fun i o hi => ?_, fun i j o o' li lj hi hj ho ho' hl hl' => ?_, fun i hi => ?_, fun g hg => ?_⟩
  · obtain ⟨l', hl', ho⟩ := h.obj i o hi
    exact ⟨l', (Env.put_le hE).loc _ _ hl', ho.mono (Env.put_le hE)⟩
  · rw [Env.put_other l (hno i o hi)] at hl
    rw [Env.put_other l (hno j o' hj)] at hl'
    exact h.inj i j o o' li lj hi hj ho ho' hl hl'
  · have hi : n ≤ i := hi
    rw [Env.put_other l (by omega)]
    exact h.new i (by omega)
  · have : g ≠ id := by
      rintro rfl
      rw [h.glob g hg] at hE; cases hE
    rw [Env.put_other l this]
    exact h.glob g hg
/-- A block of its own is laid. -/
theorem Sim.lay {E : Env} {S : AW} {w : World} (h : Sim E S w) {id : Nat} {l : Loc} {ob : AObj} (hl : E.loc id = some l) (ho : OR E w l ob) (hnew : live ob → ∀ i o li, S.heap.get i = some o → live o → E.loc i = some li → li.blk = l.blk → i = id) :
    Sim E { heap := S.heap.set id ob, next := S.next } w := by
  refine ⟨fun i o hi => ?_, fun i j o o' li lj hi hj ho1 ho2 hl1 hl2 hb => ?_, h.new, h.glob⟩
  · simp only [T.get_set] at hi
    by_cases e : i = id
    · rw [if_pos e] at hi
      cases hi
      subst e
      exact ⟨l, hl, ho⟩
    · rw [if_neg e] at hi
      exact h.obj i o hi
  · simp only [T.get_set] at hi hj
    by_cases e1 : i = id
    · by_cases e2 : j = id
      · rw [e1, e2]
      · rw [if_pos e1] at hi
        rw [if_neg e2] at hj
        cases hi
        subst e1
        rw [hl] at hl1; cases hl1
        exact (hnew ho1 j o' lj hj ho2 hl2 hb.symm).symm
    · by_cases e2 : j = id
      · rw [if_neg e1] at hi
        rw [if_pos e2] at hj
        cases hj
        subst e2
        rw [hl] at hl2; cases hl2
        exact hnew ho2 i o li hi ho1 hl1 hb
      · rw [if_neg e1] at hi
        rw [if_neg e2] at hj
        exact h.inj i j o o' li lj hi hj ho1 ho2 hl1 hl2 hb
/-- .. with its name. -/
theorem Fresh.sim {E : Env} {S : AW} {w w' : World} {id n : Nat} {ob : AObj} {l : Loc} (hF : Fresh E w id ob l w') (h : Sim E S w) (hE : E.loc id = none) (hn : S.next ≤ n) (hid : id < n) {k : Nat} (hk : k ≤ id) :
    Sim (E.put id l) { heap := S.heap.set id ob, next := n } w' ∧ Grow k E S w (E.put id l) { heap := S.heap.set id ob, next := n } w' := by
  have h1 := (h.keep hF.keep).put l hE hn hid
  refine ⟨h1.lay (Env.put_same E id l) hF.or_ (fun hl i o li hi hlo hli hb => ?_), ?_⟩
  · exfalso
    have hi' : S.heap.get i = some o := hi
    obtain ⟨l0, hl0, ho0⟩ := h.obj i o hi'
    have hle := (Env.put_le (l := l) hE).loc _ _ hl0
    rw [hle] at hli; cases hli
    have := ho0.blk_lt hlo
    have := hF.blk hl
    omega
  · refine ⟨Env.put_le hE, hF.os, hF.tape, hF.output, hF.size, fun b hb _ => hF.keep b hb, fun i o li hi hlo hli => ?_, hn, fun i hi hl => ?_⟩
    · simp only [T.get_set] at hi
      by_cases e : i = id
      · rw [if_pos e] at hi
        cases hi
        subst e
        rw [Env.put_same] at hli; cases hli
        exact .inl (hF.blk hlo)
      · rw [if_neg e] at hi
        rw [Env.put_other l e] at hli
        exact .inr ⟨i, o, li, hi, hlo, hli, rfl, fun x => x⟩
    · by_cases e : i = id
      · subst e
        omega
      · rw [Env.put_other l e]; exact hl
end Go.Ev
namespace Go.Ev
theorem Sim.mod {E : Env} {S : AW} {w : World} {i : Nat} {o o' : AObj} {l : Loc} {ob : Obj} (h : Sim E S w) (hi : S.heap.get i = some o) (hw : wr o) (hl : E.loc i = some l) (ho : OR E (w.setBlk l.blk ob) l o') (n : Nat) :
    Sim E (S.put i o') (w.setBlk l.blk ob) ∧ Grow n E S w E (S.put i o') (w.setBlk l.blk ob) := by
  have hlt : l.blk < w.heap.size := by
    obtain ⟨l', hl', h1⟩ := h.obj i o hi
    rw [hl] at hl'; cases hl'
    exact h1.blk_lt (live_of_wr hw)
  refine ⟨⟨fun j oj hj => ?_, fun j k oj ok lj lk hj hk h1 h2 h3 h4 h5 => ?_, h.new, h.glob⟩, Le.refl E, rfl, rfl, rfl, by rw [setBlk_size]; exact Nat.le_refl _, fun b hb hno => ?_, fun j oj lj hj h1 h2 => ?_, Nat.le_refl _, fun j _ hj => hj⟩
  · simp only [AW.put, T.get_set] at hj
    by_cases e : j = i
    · rw [if_pos e] at hj
      cases hj
      subst e
      exact ⟨l, hl, ho⟩
    · rw [if_neg e] at hj
      obtain ⟨lj, hlj, hoj⟩ := h.obj j oj hj
      refine ⟨lj, hlj, ?_⟩
      by_cases hlv : live oj
      · refine hoj.heap (setBlk_other fun hb => e ?_)
        exact h.inj j i oj o lj l hj hi hlv (live_of_wr hw) hlj hl hb
      · cases oj <;> first | trivial | exact absurd trivial hlv
  · simp only [AW.put, T.get_set] at hj hk
    have key : ∀ j oj, (if j = i then some o' else S.heap.get j) = some oj → live oj → ∃ o2, S.heap.get j = some o2 ∧ live o2 := by
      intro j oj hj hlv
      by_cases e : j = i
      · exact ⟨o, by rw [e]; exact hi, live_of_wr hw⟩
      · rw [if_neg e] at hj; exact ⟨oj, hj, hlv⟩
    obtain ⟨o1, a1, a2⟩ := key j oj hj h1
    obtain ⟨o2, b1, b2⟩ := key k ok hk h2
    exact h.inj j k o1 o2 lj lk a1 b1 a2 b2 h3 h4 h5
  · exact setBlk_other fun e => hno i o l hi hw hl e.symm
  · simp only [AW.put, T.get_set] at hj
    by_cases e : j = i
    · subst e
      rw [hl] at h2; cases h2
      exact .inr ⟨j, o, l, hi, live_of_wr hw, hl, rfl, fun _ => hw⟩
    · rw [if_neg e] at hj
      exact .inr ⟨j, oj, lj, hj, h1, h2, rfl, fun x => x⟩
/-- What a plain operation does. -/
def Does (C : Cx) (E : Env) (S : AW) (w : World) (act : Act) (o : Oper) (v : AV) (S' : AW) : Prop :=
  ∃ x w' E', ((execOp act.eval o).run C.P w = .ok (.value x) w' ∨ ((execOp act.eval o).run C.P w = .ok .skip w' ∧ x = undef)) ∧ VR E' v x ∧ Sim E' S' w' ∧ Grow S.next E S w E' S' w'
def AHok (f : AH) (op : Op) : Prop := ∀ {C : Cx} {R : Iv} {rnd : Option Nat} {E : Env} {S S' : AW} {w : World} {tm : T AV} {act : Act} {o : Oper} {v : AV}, o.op = op → At C E S w tm act → f C R rnd tm S = some (v, S') → Does C E S w act o v S'
theorem run_u {P : Program} {s : Sem Unit} {w w' : World} (h : s.run P w = .ok () w') : (do s; pure .skip : Sem Next).run P w = .ok .skip w' := by
  simp only [Sem.run_bind, h, Result.andThen_ok, Sem.run_pure]
theorem VR_undef (E : Env) : VR E (.tup []) undef := by simp only [VR]; exact ⟨[], rfl, by simp [VRL]⟩
theorem unitA_some {r : Option AW} {v : AV} {S : AW} : unitA r = some (v, S) ↔ r = some S ∧ v = .tup [] := by
  simp only [unitA, ob_some, Option.some.injEq, Prod.mk.injEq]
  constructor
  · rintro ⟨a, h, rfl, rfl⟩; exact ⟨h, rfl⟩
  · rintro ⟨h, rfl⟩; exact ⟨S, h, rfl, rfl⟩
theorem dRow_some {o : AObj} {r : Row} : dRow o = some r ↔ o = .cells r.e r.rs r.op := by
  cases o <;> simp [dRow]
  case cells e rs op =>
    constructor
    · rintro rfl; exact ⟨rfl, rfl, rfl⟩
    · rintro ⟨rfl, rfl, rfl⟩; rfl
theorem dMp_some {o : AObj} {m : Mp} : dMp o = some m ↔ o = .map m.es m.clock := by
  cases o <;> simp [dMp]
  case map es c =>
    constructor
    · rintro rfl; exact ⟨rfl, rfl⟩
    · rintro ⟨rfl, rfl⟩; rfl
/-- Cells written into a block of its own. -/
theorem storeCellsV_sound {P : Program} {E : Env} {S S' : AW} {w : World} (hS : Sim E S w) {i off : Nat} {new : RL} {l : Loc} {vs : List Value} (h : storeCellsV S i off new = some S') (hl : E.loc i = some l) (hc : CR E (rflat new) vs) (n : Nat) :
    ∃ w', (storeCells ⟨l.blk, l.off + off, none⟩ vs).run P w = .ok () w' ∧ Sim E S' w' ∧ Grow n E S w E S' w' := by
  simp only [storeCellsV, ob_some, dRow_some, Option.some.injEq] at h
  obtain ⟨o, ho, r, rfl, rs, hrs, rfl⟩ := h
  obtain ⟨l', hl', pre, mid, post, fr, hb, hpre, hcm, hfr, hop⟩ := hS.obj _ _ ho
  rw [hl] at hl'; cases hl'
  obtain ⟨h1, h2⟩ := rput_some hrs
  have hml := hcm.1
  have hvl := hc.1
  have hcv : ∀ v ∈ vs, cellVal v := by
    intro v hv
    obtain ⟨j, hj, rfl⟩ := List.getElem_of_mem hv
    obtain ⟨a, ha⟩ : ∃ a, (rflat new)[j]? = some a := ⟨(rflat new)[j]'(by omega), by simp [show j < (rflat new).length by omega]⟩
    exact (hc.2 j a vs[j] ha (by simp [hj])).2
  have hrun := run_storeRow (P := P) vs (l.off + off) 0 (pre ++ mid ++ post) w hb (by rcases hfr with h | h; exact .inl (Nat.le_of_eq h); exact .inr h) (by simp; omega) hcv
  have hlist : (pre ++ mid ++ post).take (l.off + off + 0) ++ vs ++ (pre ++ mid ++ post).drop (l.off + off + 0 + vs.length) = pre ++ (mid.take off ++ vs ++ mid.drop (off + vs.length)) ++ post := by
    rw [← hpre, Nat.add_zero, List.append_assoc pre, List.take_append, List.drop_append, List.take_of_length_le (by omega), List.drop_of_length_le (by omega)]
    have e1 : pre.length + off - pre.length = off := by omega
    have e2 : pre.length + off + vs.length - pre.length = off + vs.length := by omega
    rw [e1, e2, List.take_append_of_le_length (by omega), List.drop_append_of_le_length (by omega)]
    simp
  rw [hlist] at hrun
  refine ⟨_, hrun, hS.mod ho trivial hl ?_ n⟩
  have hlt : l.blk < w.heap.size := (Array.getElem?_eq_some_iff.1 hb).1
  refine ⟨pre, mid.take off ++ vs ++ mid.drop (off + vs.length), post, fr, setBlk_same hlt, hpre, ?_, ?_, ?_⟩
  · rw [h1, hvl]
    exact ((hcm.take off).append hc).append (hcm.drop _)
  · rcases hfr with hf | hf
    · exact .inl hf
    · right
      simp only [List.length_append, List.length_take, List.length_drop] at hf ⊢
      omega
  · cases hop' : r.op with
    | none => rw [hop'] at hop; exact hop
    | some z =>
      rw [hop'] at hop
      obtain ⟨hp0, hop⟩ := hop
      refine ⟨hp0, ?_⟩
      simp only [List.length_append, List.length_take, List.length_drop] at hop ⊢
      omega
theorem aStore_ok (t : TypeId) (a x : Operand) : AHok (aStore t a x) (.store t a x) := by
  intro C R rnd E S S' w tm act o v ho hA h
  simp only [aStore, ob_some, unitA_some] at h
  obtain ⟨p, hp, y, hy, h, rfl⟩ := h
  simp only [storeV, ob_some, tst_some, dPtr_some] at h
  obtain ⟨q, rfl, cs, hcs, d, hd, hsz, h⟩ := h
  have hsz := eq_of_beq hsz
  rw [rlen_eq] at hsz
  obtain ⟨vs, h1, h2⟩ := cellsOfV_sound (hA.ev hy) hcs
  have hx := hA.ev hp
  simp only [VR] at hx
  obtain ⟨l, hl, hx⟩ := hx
  obtain ⟨w', hr, hS', hG⟩ := storeCellsV_sound (P := C.P) hA.sim h hl h2 S.next
  refine ⟨undef, w', E, .inr ⟨?_, rfl⟩, VR_undef E, hS', hG⟩
  simp only [execOp, ho, hx]
  refine run_u ?_
  unfold Instr.storeAt storeVar
  have : vs.length = d.size := by rw [← h2.1]; exact hsz
  simp only [Instr.sureAddr, Sem.run_bind, Sem.run_pure, Result.andThen_ok, hA.ty.runS hd, h1, List.size_toArray, this, ne_eq, not_true_eq_false, if_false, hr]
end Go.Ev
namespace Go.Ev
theorem run_setObj' {P : Program} {w : World} {r : Nat} {o o' : Obj} (h : w.heap[r]? = some o) (hn : ∀ c e f, o ≠ .cells c e f) : (setObj r o').run P w = .ok () (w.setBlk r o') := by
  unfold setObj
  cases o <;> first | (exact absurd rfl (hn _ _ _)) | (simp [Sem.run, h, World.setBlk])
theorem sameNow_true {d : TypeDesc} {x y : Value} (h : Instr.sameNow d x y = some true) : y = x ∧ Instr.sameBits 10000 x x = true := by
  unfold Instr.sameNow at h
  split at h
  · split at h
    · rename_i hkk; simp at h; subst hkk; subst h; exact ⟨rfl, by simp [Instr.sameBits]⟩
    · cases h
  · rename_i a b
    simp only [Option.some.injEq] at h
    have h2 : (a.data == b.data) = true := h
    have h3 : a.data = b.data := by simpa using h2
    have e : a = b := by cases a; cases b; simp_all
    subst e
    exact ⟨rfl, h⟩
  · simp at h; subst h; exact ⟨rfl, by simp [Instr.sameBits]⟩
  · cases h
theorem ER.set {E : Env} {es : List Ent} {ms : List MapEntry} (h : ER E es ms) {j : Nat} {e : Ent} {m : MapEntry} (h1 : VR E e.key m.key) (h2 : VR E e.val m.val) (h3 : m.born = e.born) : ER E (es.set j e) (ms.set j m) := by
  refine ⟨by simp [h.1], fun i x y hx hy => ?_⟩
  by_cases e' : i = j
  · subst e'
    rw [List.getElem?_set_self'] at hx hy
    cases hx' : es[i]? with
    | none => simp [hx'] at hx
    | some x' =>
      cases hy' : ms[i]? with
      | none => simp [hy'] at hy
      | some y' =>
        simp [hx'] at hx
        simp [hy'] at hy
        subst hx; subst hy
        exact ⟨h1, h2, h3⟩
  · rw [List.getElem?_set_ne (Ne.symm e')] at hx hy
    exact h.2 i x y hx hy
theorem ER.snoc {E : Env} {es : List Ent} {ms : List MapEntry} (h : ER E es ms) {e : Ent} {m : MapEntry} (h1 : VR E e.key m.key) (h2 : VR E e.val m.val) (h3 : m.born = e.born) : ER E (es ++ [e]) (ms ++ [m]) := by
  refine ⟨by simp [h.1], fun i x y hx hy => ?_⟩
  rcases Nat.lt_or_ge i es.length with hi | hi
  · rw [List.getElem?_append_left hi] at hx
    rw [List.getElem?_append_left (h.1 ▸ hi)] at hy
    exact h.2 i x y hx hy
  · rw [List.getElem?_append_right hi] at hx
    rw [List.getElem?_append_right (h.1 ▸ hi), ← h.1] at hy
    have : i - es.length = 0 := by
      have := (List.getElem?_eq_some_iff.1 hx).1
      simp at this; omega
    rw [this] at hx hy
    simp at hx hy
    subst hx; subst hy
    exact ⟨h1, h2, h3⟩
theorem modify_eq {ms : List MapEntry} {i : Nat} {m : MapEntry} {f : MapEntry → MapEntry} (h : ms[i]? = some m) : ms.toArray.modify i f = (ms.set i (f m)).toArray := by
  apply Array.toList_inj.1
  rw [Array.toList_modify]
  apply List.ext_getElem?
  intro j
  rw [List.getElem?_modify]
  by_cases e : i = j
  · subst e; rw [h, List.getElem?_set_self (List.getElem?_eq_some_iff.1 h).1]; simp
  · simp [e]
/-- The key that was found: it stays as it is. -/
theorem findE_key {E : Env} {d : TypeDesc} {k : AV} {kv : Value} (h1 : VR E k kv) : ∀ {es : List Ent} {ms : List MapEntry} {i j : Nat} {a : AV}, (es ≠ [] → keyKind d k = true) → findE k es i = some (some (j, a)) → ER E es ms →
    ∃ e m, es[j - i]? = some e ∧ ms[j - i]? = some m ∧ m.key = kv ∧ Instr.sameBits 10000 kv kv = true ∧ i ≤ j
  | [], ms, i, j, a, _, h, _ => by rw [findE_nil] at h; cases h
  | e :: es, ms, i, j, a, hk, h, he => by
    rw [findE_cons, ob_some] at h
    obtain ⟨b, hb, h⟩ := h
    cases ms with
    | nil => simp [ER] at he
    | cons m ms =>
      obtain ⟨p1, p2, _⟩ := he.2 0 e m rfl rfl
      have hs := keyEq_sound (hk (by simp)) hb h1 p1
      cases b with
      | true =>
        cases h
        exact ⟨e, m, by simp, by simp, (sameNow_true hs).1, (sameNow_true hs).2, Nat.le_refl _⟩
      | false =>
        obtain ⟨x, y, q1, q2, q3, q4, q5⟩ := findE_key h1 (i := Nat.succ i) (fun _ => hk (by simp)) h (ms := ms) ⟨by simpa using he.1, fun j x y hx hy => he.2 (j + 1) x y (by simpa using hx) (by simpa using hy)⟩
        have e1 : j - i = (j - Nat.succ i) + 1 := by omega
        exact ⟨x, y, by rw [e1]; simpa using q1, by rw [e1]; simpa using q2, q3, q4, by omega⟩
theorem keyKind_of {tt : T Ty} {kt : TypeId} {em : Bool} {k : AV} {es : List Ent} (h : keyOk tt kt em k = true) (he : em = true → es = []) : ∃ d, tt.get kt = some d ∧ (es ≠ [] → keyKind d.und k = true) := by
  unfold keyOk at h
  cases hd : tt.get kt with
  | none => simp [hd] at h
  | some d =>
    rw [hd, oel_some] at h
    refine ⟨d, rfl, fun hne => ?_⟩
    cases ha : dAgg k with
    | none => rw [ha, oel_none] at h; exact h
    | some cs =>
      rw [ha, oel_some] at h
      cases hs : dStructT d.und with
      | none => simp [hs] at h
      | some fs =>
        rw [hs, oel_some, andB_eq, Bool.and_eq_true] at h
        exact absurd (he h.1) hne
theorem run_keyStays {P : Program} {w : World} {k : Value} (h : Instr.sameBits 10000 k k = true) : (Instr.keyThatStays k k).run P w = .ok k w := by
  unfold Instr.keyThatStays
  simp [h]
theorem aMapUpdate_run {C : Cx} {E : Env} {S S' : AW} {w : World} (hT : TTok C.P C.tt) (hS : Sim E S w) {t : TypeId} {m k v : AV} {mv kv vv : Value} (h : mapUpdateV C.tt S t m k v = some S') (hm : VR E m mv) (hk : VR E k kv) (hv : VR E v vv) (n : Nat) :
    ∃ w', (Instr.mapUpdate t mv kv vv).run C.P w = .ok () w' ∧ Sim E S' w' ∧ Grow n E S w E S' w' := by
  simp only [mapUpdateV, ob_some, tst_some, dMapT_some, Option.some.injEq] at h
  obtain ⟨d, hd, p, hp, q, hq, hke, r, hr, rfl⟩ := h
  have hU := hT.runU hd
  rw [hp] at hU
  obtain ⟨_, ho, l, ms, hl, rfl, hb, he⟩ := mapOf_sound hS hq hm
  have hlt : l.blk < w.heap.size := (Array.getElem?_eq_some_iff.1 hb).1
  obtain ⟨r', hf, hFR⟩ := findKey_ok hT hke (fun h => by cases h) hk hr he
  have hck := checkKey_ok hT hke hk false 9998
  cases r with
  | none =>
    have hFR : r' = none := hFR
    subst hFR
    refine ⟨w.setBlk l.blk (.map (ms ++ [({ key := kv, val := vv, born := q.clock } : MapEntry)]).toArray (q.clock + 1)), ?_, hS.mod ho trivial hl ?_ n⟩
    · unfold Instr.mapUpdate
      simp only [Sem.run_bind, hU, Result.andThen_ok, run_getObj' hb (by simp), hck, hf, run_setObj' hb (by simp)]
      simp
    · refine ⟨ms ++ [({ key := kv, val := vv, born := q.clock } : MapEntry)], setBlk_same hlt, ?_⟩
      rw [lapp_eq]
      exact he.snoc hk hv rfl
  | some p' =>
    obtain ⟨d', hd', hkk⟩ := keyKind_of (es := q.es) hke (fun h => by cases h)
    obtain ⟨e, me, g1, g2, g3, g4, _⟩ := findE_key hk hkk hr he
    obtain ⟨x, rfl, hx, _⟩ := hFR
    simp only [Nat.sub_zero] at g1 g2
    refine ⟨w.setBlk l.blk (.map (ms.set p'.1 ({ key := kv, val := vv, born := me.born } : MapEntry)).toArray q.clock), ?_, hS.mod ho trivial hl ?_ n⟩
    · unfold Instr.mapUpdate
      simp only [Sem.run_bind, hU, Result.andThen_ok, run_getObj' hb (by simp), hck, hf, List.getElem?_toArray, g2, Option.map_some, Option.getD_some, g3, run_keyStays g4, run_setObj' hb (by simp), modify_eq g2]
    · refine ⟨ms.set p'.1 ({ key := kv, val := vv, born := me.born } : MapEntry), setBlk_same hlt, ?_⟩
      simp only [setE, lget_eq, g1, oel_some, lset_eq]
      obtain ⟨k1, _, k3⟩ := he.2 _ e me g1 g2
      exact he.set (by rw [g3] at k1; exact k1) hv k3
theorem aMapUpdate_ok (t : TypeId) (m k x : Operand) : AHok (aMapUpdate t m k x) (.mapUpdate t m k x) ∧ AHok (aMapUpdate t m k x) (.insert t m k x) := by
  constructor <;>
  · intro C R rnd E S S' w tm act o v ho hA h
    simp only [aMapUpdate, ob_some, unitA_some] at h
    obtain ⟨a, ha, b, hb, c, hc, h, rfl⟩ := h
    obtain ⟨w', hr, hS', hG⟩ := aMapUpdate_run hA.ty hA.sim h (hA.ev ha) (hA.ev hb) (hA.ev hc) S.next
    exact ⟨undef, w', E, .inr ⟨by simp only [execOp, ho]; exact run_u hr, rfl⟩, VR_undef E, hS', hG⟩
end Go.Ev
namespace Go.Ev
theorem setE_ER {E : Env} {es : List Ent} {ms : List MapEntry} (he : ER E es ms) {j : Nat} {e : Ent} {m : MapEntry} {v : AV} {vv : Value} (g1 : es[j]? = some e) (g2 : ms[j]? = some m) (hv : VR E v vv) : ER E (setE es j v) (ms.set j { m with val := vv }) := by
  simp only [setE, lget_eq, g1, oel_some, lset_eq]
  obtain ⟨k1, _, k3⟩ := he.2 _ e m g1 g2
  exact he.set k1 hv k3
theorem aMapEntry_ok (t : TypeId) (mx kx : Operand) : AHok (aMapEntry t mx kx) (.mapEntry t mx kx) := by
  intro C R rnd E S S' w tm act o v ho hA h
  simp only [aMapEntry, ob_some] at h
  obtain ⟨m, hm, k, hk, h⟩ := h
  simp only [mapEntryV, ob_some, tst_some, dMapT_some] at h
  obtain ⟨d, hd, p, hp, q, hq, hke, r, hr, h⟩ := h
  have hU := hA.ty.runU hd
  rw [hp] at hU
  have hmv := hA.ev hm
  have hkv := hA.ev hk
  obtain ⟨_, hob, l, ms, hl, hmx, hb, he⟩ := mapOf_sound hA.sim hq hmv
  have hlt : l.blk < w.heap.size := (Array.getElem?_eq_some_iff.1 hb).1
  obtain ⟨r', hf, hFR⟩ := findKey_ok hA.ty hke (fun h => by cases h) hkv hr he
  have hck := checkKey_ok hA.ty hke hkv false 9998
  cases r with
  | none =>
    have hFR : r' = none := hFR
    subst hFR
    simp only [oel_none, ob_some, Option.some.injEq, Prod.mk.injEq] at h
    obtain ⟨y, hy, z, hz, rfl, rfl⟩ := h
    obtain ⟨zv, hz1, hz2⟩ := hA.ty.runZ hy hz
    obtain ⟨hS', hG⟩ := hA.sim.mod (ob := .map (ms ++ [({ key := act.eval kx, val := zv, born := q.clock } : MapEntry)]).toArray (q.clock + 1)) (o' := newE q k z) hob trivial hl
      ⟨ms ++ [({ key := act.eval kx, val := zv, born := q.clock } : MapEntry)], setBlk_same hlt, by rw [lapp_eq]; exact he.snoc hkv (hz2 E) rfl⟩ S.next
    refine ⟨.tuple #[zv, .int .i64 (.ofNat q.clock)], _, E, .inl ?_, ?_, hS', hG⟩
    · simp only [execOp, ho]
      refine run_v' ?_
      unfold Instr.mapEntry
      simp only [Sem.run_bind, hU, Result.andThen_ok, hmx, run_getObj' hb (by simp), hck, hf, hz1, run_setObj' hb (by simp), Sem.run_pure, goInt]
      simp
    · simp only [VR]; exact ⟨[zv, .int .i64 (.ofNat q.clock)], rfl, by simp only [VRL]; exact ⟨_, _, rfl, hz2 E, _, _, rfl, by simp [VR], rfl⟩⟩
  | some p' =>
    simp only [oel_some, ob_some, lget_eq, Option.some.injEq, Prod.mk.injEq] at h
    obtain ⟨e, he0, rfl, rfl⟩ := h
    obtain ⟨d', hd', hkk⟩ := keyKind_of (es := q.es) hke (fun h => by cases h)
    obtain ⟨e1, me, g1, g2, g3, g4, _⟩ := findE_key hkv hkk hr he
    obtain ⟨x, rfl, hx, _⟩ := hFR
    simp only [Nat.sub_zero] at g1 g2
    rw [he0] at g1; cases g1
    obtain ⟨_, _, k3⟩ := he.2 _ e me he0 g2
    refine ⟨.tuple #[x, .int .i64 (.ofNat e.born)], w, E, .inl ?_, ?_, hA.sim, Grow.refl _ _ _ _⟩
    · simp only [execOp, ho]
      refine run_v' ?_
      unfold Instr.mapEntry
      have hsame : w.setBlk l.blk (.map (ms.set p'.1 { me with key := act.eval kx }).toArray q.clock) = w := by
        have e1 : ms.set p'.1 { me with key := act.eval kx } = ms := by
          rw [← g3]
          apply List.ext_getElem?
          intro j
          rw [List.getElem?_set]
          split
          · rename_i hj; subst hj; simp [g2, (List.getElem?_eq_some_iff.1 g2).1]
            rw [List.getElem?_eq_some_iff] at g2
            obtain ⟨_, g2⟩ := g2
            rw [g2]
          · rfl
        rw [e1]; exact setBlk_self hb
      simp only [k3] at hsame
      simp only [Sem.run_bind, hU, Result.andThen_ok, hmx, run_getObj' hb (by simp), hck, hf, List.getElem?_toArray, g2, Option.map_some, Option.getD_some, g3, run_keyStays g4, run_setObj' hb (by simp), modify_eq g2, Sem.run_pure, goInt, hsame, k3]
      rfl
    · simp only [VR]; exact ⟨[x, .int .i64 (.ofNat e.born)], rfl, by simp only [VRL]; exact ⟨_, _, rfl, hx, _, _, rfl, by simp [VR], rfl⟩⟩
theorem findBorn_cons (b : Nat) (e : Ent) (l : List Ent) (i : Nat) : findBorn b (e :: l) i = iteB (Nat.beq e.born b) (some i) (findBorn b l (Nat.succ i)) := rfl
theorem findBorn_sound {E : Env} {b : Nat} : ∀ {es : List Ent} {ms : List MapEntry} {i j : Nat}, findBorn b es i = some j → ER E es ms →
    ∃ e m, i ≤ j ∧ es[j - i]? = some e ∧ ms[j - i]? = some m ∧ ms.findIdx? (fun e => (e.born : Int) == (Int.ofNat b)) = some (j - i)
  | [], ms, i, j, h, _ => by cases h
  | e :: es, ms, i, j, h, he => by
    rw [findBorn_cons, iteB_eq] at h
    cases ms with
    | nil => simp [ER] at he
    | cons m ms =>
      obtain ⟨_, _, k3⟩ := he.2 0 e m rfl rfl
      by_cases hb : e.born = b
      · rw [if_pos (by rw [hb]; exact beq_self b)] at h
        cases h
        refine ⟨e, m, Nat.le_refl _, by simp, by simp, ?_⟩
        rw [List.findIdx?_cons, k3, hb]; simp
      · rw [if_neg (by rw [beq_of_ne hb]; simp)] at h
        obtain ⟨x, y, q1, q2, q3, q4⟩ := findBorn_sound (i := Nat.succ i) h (ms := ms) ⟨by simpa using he.1, fun j x y hx hy => he.2 (j + 1) x y (by simpa using hx) (by simpa using hy)⟩
        have e1 : j - i = (j - Nat.succ i) + 1 := by omega
        refine ⟨x, y, by omega, by rw [e1]; simpa using q2, by rw [e1]; simpa using q3, ?_⟩
        rw [List.findIdx?_cons, k3, q4, e1]
        have : ((e.born : Int) == Int.ofNat b) = false := by
          rw [beq_eq_false_iff_ne]; intro h; exact hb (Int.ofNat.inj h)
        simp only [this, Bool.false_eq_true, if_false, Option.map_some]
theorem aEntryStore_ok (t : TypeId) (mx sx x : Operand) : AHok (aEntryStore mx sx x) (.entryStore t mx sx x) := by
  intro C R rnd E S S' w tm act o v ho hA h
  simp only [aEntryStore, ob_some, unitA_some] at h
  obtain ⟨m, hm, s, hs, y, hy, h, rfl⟩ := h
  simp only [entryStoreV, ob_some, Option.some.injEq] at h
  obtain ⟨q, hq, b, hb', j, hj, rfl⟩ := h
  obtain ⟨_, hob, l, ms, hl, hmx, hb, he⟩ := mapOf_sound hA.sim hq (hA.ev hm)
  have hlt : l.blk < w.heap.size := (Array.getElem?_eq_some_iff.1 hb).1
  obtain ⟨ik, hsx⟩ := dNat_VR hb' (hA.ev hs)
  obtain ⟨e, me, _, g1, g2, g3⟩ := findBorn_sound hj he
  simp only [Nat.sub_zero] at g1 g2 g3
  obtain ⟨hS', hG⟩ := hA.sim.mod (ob := .map (ms.set j { me with val := act.eval x }).toArray q.clock) (o' := .map (setE q.es j y) q.clock) hob trivial hl
      ⟨_, setBlk_same hlt, setE_ER he g1 g2 (hA.ev hy)⟩ S.next
  refine ⟨undef, _, E, .inr ⟨?_, rfl⟩, VR_undef E, hS', hG⟩
  simp only [execOp, ho]
  refine run_u ?_
  unfold Instr.entryStore
  have g3' : ms.toArray.findIdx? (fun e => (e.born : Int) == (Int.ofNat b)) = some j := by simpa using g3
  simp only [hmx, hsx, Sem.run_bind, run_getObj' hb (by simp), Result.andThen_ok, asInt, asIntOf, Sem.run_pure, g3', run_setObj' hb (by simp), modify_eq g2]
theorem newIt_some {S : AW} {ob : AObj} {v : AV} {S' : AW} : newIt S ob = some (v, S') ↔ v = .ptr S.next 0 ∧ S' = S.add ob := by
  simp only [newIt, Option.some.injEq, Prod.mk.injEq]
  constructor
  · rintro ⟨rfl, rfl⟩; exact ⟨rfl, rfl⟩
  · rintro ⟨rfl, rfl⟩; exact ⟨rfl, rfl⟩
theorem it_does {E : Env} {S : AW} {w : World} {ob : AObj} {oo : Obj} (hS : Sim E S w) (h : ∀ w' l, l.blk = w.heap.size → l.off = 0 → w'.heap[w.heap.size]? = some oo → OR (E.put S.next l) w' l ob) :
    ∃ E', VR E' (.ptr S.next 0) (.pointer (some ⟨w.heap.size, 0, none⟩)) ∧ Sim E' (S.add ob) (w.alloc oo) ∧ Grow S.next E S w E' (S.add ob) (w.alloc oo) := by
  have hE := hS.new S.next (Nat.le_refl _)
  have hF : Fresh E w S.next ob ⟨w.heap.size, 0, 0⟩ (w.alloc oo) := Fresh.alloc fun w' hw => h w' _ rfl rfl hw
  obtain ⟨h1, h2⟩ := hF.sim hS hE (n := S.next + 1) (by omega) (by omega) (k := S.next) (Nat.le_refl _)
  exact ⟨_, ptr_put, h1, h2⟩
theorem aRange_ok (t : TypeId) (x : Operand) : AHok (aRange t x) (.range t x) := by
  intro C R rnd E S S' w tm act o v ho hA h
  simp only [aRange, ob_some] at h
  obtain ⟨a, ha, h⟩ := h
  simp only [rangeV, ob_some] at h
  obtain ⟨d, hd, h⟩ := h
  have hU := hA.ty.runU hd
  have hv := hA.ev ha
  cases hm : dMap a with
  | some i =>
    simp only [hm, oel_some, ob_some, dMapT_some, newIt_some] at h
    obtain ⟨p, hp, q, hq, rfl, rfl⟩ := h
    obtain ⟨e1, hob, l, ms, hl, hmx, hb, he⟩ := mapOf_sound hA.sim hq hv
    rw [dMap_some] at hm
    rw [hm] at e1; cases e1
    rw [hp] at hU
    have hne : q.i ≠ S.next := by
      intro e
      have := hA.sim.new S.next (Nat.le_refl _)
      rw [← e, hl] at this; cases this
    obtain ⟨E', h1, h2, h3⟩ := it_does (S := S) (w := w) (ob := .miter (some q.i) q.clock [] q.clock) (oo := .mapIter (some l.blk) q.clock #[] q.clock) hA.sim
      (fun w' lo hlo hoff hw => ⟨hoff, some l.blk, by rw [hlo]; exact hw, l, by rw [Env.put_other lo hne]; exact hl, rfl⟩)
    refine ⟨_, _, E', .inl ?_, h1, h2, h3⟩
    simp only [execOp, ho]
    refine run_v' ?_
    unfold Instr.range
    simp only [Sem.run_bind, hU, Result.andThen_ok, hmx, run_getObj' hb (by simp), Sem.run_pure, run_newObj_alloc]
  | none =>
    simp only [hm, oel_none] at h
    cases hs : dStr a with
    | some s =>
      simp only [hs, oel_some, tst_some, isStrT_iff, newIt_some] at h
      obtain ⟨hst, rfl, rfl⟩ := h
      rw [dStr_some] at hs
      subst hs
      simp only [VR] at hv
      rw [hst] at hU
      obtain ⟨E', h1, h2, h3⟩ := it_does (S := S) (w := w) (ob := .siter s 0) (oo := .stringIter ⟨(s.map UInt8.ofNat).toArray⟩ 0) hA.sim
        (fun w' lo hlo hoff hw => ⟨hoff, by rw [hlo]; exact hw, hv.2⟩)
      refine ⟨_, _, E', .inl ?_, h1, h2, h3⟩
      simp only [execOp, ho]
      refine run_v' ?_
      unfold Instr.range
      simp only [Sem.run_bind, hU, Result.andThen_ok, hv.1, bytesV, Sem.run_pure, run_newObj_alloc]
    | none =>
      simp only [hs, oel_none, tst_some, isNmap_iff, ob_some, dMapT_some, newIt_some] at h
      obtain ⟨rfl, p, hp, rfl, rfl⟩ := h
      simp only [VR] at hv
      rw [hp] at hU
      obtain ⟨E', h1, h2, h3⟩ := it_does (S := S) (w := w) (ob := .miter none 0 [] 0) (oo := .mapIter none 0 #[] 0) hA.sim
        (fun w' lo hlo hoff hw => ⟨hoff, none, by rw [hlo]; exact hw, rfl⟩)
      refine ⟨_, _, E', .inl ?_, h1, h2, h3⟩
      simp only [execOp, ho]
      refine run_v' ?_
      unfold Instr.range
      simp only [Sem.run_bind, hU, Result.andThen_ok, hv, Sem.run_pure, run_newObj_alloc]
end Go.Ev
namespace Go.Ev
theorem decode_ascii {s : List Nat} {i b : Nat} (h : s[i]? = some b) (hb : b < 128) : Utf8.decode ⟨(s.map UInt8.ofNat).toArray⟩ i = (b, 1) := by
  have hi : i < s.length := (List.getElem?_eq_some_iff.1 h).1
  have hg : ((ByteArray.mk (s.map UInt8.ofNat).toArray).get! (i + 0)).toNat = b := by
    show ((s.map UInt8.ofNat).toArray[i + 0]!).toNat = b
    rw [Nat.add_zero]
    simp only [List.getElem!_toArray, List.getElem!_eq_getElem?_getD, List.getElem?_map, h, Option.map_some, Option.getD_some]
    simp; omega
  unfold Utf8.decode
  simp only [hg]
  rw [if_pos (by omega)]
theorem dSi_some {o : AObj} {q : Si} : dSi o = some q ↔ o = .siter q.s q.pos := by
  cases o <;> simp [dSi]
  case siter s p =>
    constructor
    · rintro rfl; exact ⟨rfl, rfl⟩
    · rintro ⟨rfl, rfl⟩; rfl
theorem dMi_some {o : AObj} {q : Mi} : dMi o = some q ↔ o = .miter q.m q.since q.seen q.stepped := by
  cases o <;> simp [dMi]
  case miter m a b c =>
    constructor
    · rintro rfl; exact ⟨rfl, rfl, rfl, rfl⟩
    · rintro ⟨rfl, rfl, rfl, rfl⟩; rfl
theorem over_some {S S' : AW} {v : AV} : over S = some (v, S') ↔ v = .tup [.bool false] ∧ S' = S := by
  simp only [over, Option.some.injEq, Prod.mk.injEq]
  constructor
  · rintro ⟨rfl, rfl⟩; exact ⟨rfl, rfl⟩
  · rintro ⟨rfl, rfl⟩; exact ⟨rfl, rfl⟩
theorem VR_over (E : Env) : VR E (.tup [.bool false]) (.tuple #[.bool false]) := by simp only [VR]; exact ⟨[.bool false], rfl, by simp [VRL, VR]⟩
theorem run_mapNext {P : Program} {w : World} {n : Nat} (h : n ≤ 1) : (choose (.mapNext n)).run P w = .ok 0 w := by
  rw [run_choose_drew]
  rw [if_pos (by simp [Question.forced, h])]
theorem aNext_ok (it : Operand) (isStr : Bool) : AHok (aNext it isStr) (.next it isStr) := by
  intro C R rnd E S S' w tm act o v ho hA h
  simp only [aNext, ob_some] at h
  obtain ⟨a, ha, h⟩ := h
  simp only [nextV, ob_some, tst_some, dPtr_some] at h
  obtain ⟨p, rfl, h0, ob', hob, h⟩ := h
  have h0 := eq_of_beq h0
  have hv := hA.ev ha
  simp only [VR] at hv
  obtain ⟨l, hl, hv⟩ := hv
  obtain ⟨l', hl', hO⟩ := hA.sim.obj _ _ hob
  rw [hl] at hl'; cases hl'
  suffices hh : ∃ x w', (Instr.next (.pointer (some ⟨l.blk, l.off + p.2, none⟩)) isStr o.type).run C.P w = .ok x w' ∧ VR E v x ∧ Sim E S' w' ∧ Grow S.next E S w E S' w' by
    obtain ⟨x, w', h1, h2, h3, h4⟩ := hh
    exact ⟨x, w', E, .inl (by simp only [execOp, ho, hv]; exact run_v' h1), h2, h3, h4⟩
  rw [h0]
  cases isStr with
  | true =>
    simp only [iteB_true, ob_some, dSi_some] at h
    obtain ⟨q, rfl, h⟩ := h
    obtain ⟨hoff, hb, h256⟩ := hO
    have hlt : l.blk < w.heap.size := (Array.getElem?_eq_some_iff.1 hb).1
    have hsz : (ByteArray.mk (q.s.map UInt8.ofNat).toArray).size = q.s.length := by simp [ByteArray.size]
    unfold nextStr at h
    rw [lget_eq] at h
    cases hg : q.s[q.pos]? with
    | none =>
      rw [hg, oel_none, over_some] at h
      obtain ⟨rfl, rfl⟩ := h
      have hge : ¬ q.pos < q.s.length := by simpa using hg
      refine ⟨_, w, ?_, VR_over E, hA.sim, Grow.refl _ _ _ _⟩
      unfold Instr.next
      simp only [hoff, Nat.add_zero, Sem.run_bind, run_getObj' hb (by simp), Result.andThen_ok, hsz, hge, if_false, Sem.run_pure]
    | some b =>
      rw [hg, oel_some, tst_some] at h
      obtain ⟨hb128, h⟩ := h
      cases h
      have hb128 := blt_iff.1 hb128
      have hlt' : q.pos < q.s.length := (List.getElem?_eq_some_iff.1 hg).1
      obtain ⟨hS', hG⟩ := hA.sim.mod (ob := .stringIter ⟨(q.s.map UInt8.ofNat).toArray⟩ (q.pos + 1)) (o' := .siter q.s (Nat.succ q.pos)) hob trivial hl ⟨hoff, setBlk_same hlt, h256⟩ S.next
      refine ⟨.tuple #[.bool true, goInt q.pos, .int .i32 b], _, ?_, ?_, hS', hG⟩
      · unfold Instr.next
        simp only [hoff, Nat.add_zero, Sem.run_bind, run_getObj' hb (by simp), Result.andThen_ok, hsz, hlt', if_true, decode_ascii hg hb128, run_setObj' hb (by simp), Sem.run_pure]
      · simp only [VR]
        exact ⟨[.bool true, goInt q.pos, .int .i32 b], rfl, by simp only [VRL]; exact ⟨_, _, rfl, by simp [VR], _, _, rfl, by simp [VR, goInt], _, _, rfl, by simp [VR], rfl⟩⟩
  | false =>
    simp only [iteB_false, ob_some, dMi_some] at h
    obtain ⟨q, rfl, h⟩ := h
    obtain ⟨hoff, m', hb, hm'⟩ := hO
    have hlt : l.blk < w.heap.size := (Array.getElem?_eq_some_iff.1 hb).1
    cases hm : q.m with
    | none =>
      rw [hm, oel_none, over_some] at h
      obtain ⟨rfl, rfl⟩ := h
      rw [hm] at hm'
      have hm' : m' = none := hm'
      subst hm'
      refine ⟨_, w, ?_, VR_over E, hA.sim, Grow.refl _ _ _ _⟩
      unfold Instr.next
      simp only [hoff, Nat.add_zero, Sem.run_bind, run_getObj' hb (by simp), Result.andThen_ok, Sem.run_pure]
    | some m =>
      rw [hm, oel_some] at h
      simp only [ob_some, dMp_some] at h
      obtain ⟨om, hom, mp, rfl, h⟩ := h
      rw [hm] at hm'
      obtain ⟨k, hk, rfl⟩ := hm'
      obtain ⟨k', hk', ms, hbm, he⟩ := hA.sim.obj _ _ hom
      rw [hk] at hk'; cases hk'
      simp only [nextMap, tst_some, notB_eq, andB_eq, Bool.not_eq_true', lfilter_eq, lget_eq] at h
      obtain ⟨hguard, h⟩ := h
      -- what is left, in both
      have hborn : ∀ i (x : Ent) (y : MapEntry), mp.es[i]? = some x → ms[i]? = some y → y.born = x.born := fun i x y hx hy => (he.2 i x y hx hy).2.2
      have hleft : ER E (mp.es.filter fun e => !(lmem e.born q.seen)) (ms.filter fun e => !(q.seen.reverse.toArray.contains e.born)) := by
        have hf : ∀ (x : Ent) (y : MapEntry), y.born = x.born → (!(q.seen.reverse.toArray.contains y.born)) = !(lmem x.born q.seen) := by
          intro x y hxy
          rw [lmem_eq, hxy]
          congr 1
          rw [Bool.eq_iff_iff]
          simp
        revert he
        generalize mp.es = es
        clear hguard h hborn hom hbm
        induction es generalizing ms with
        | nil =>
          intro he
          have : ms = [] := List.eq_nil_of_length_eq_zero he.1.symm
          subst this
          exact ⟨rfl, fun i x y hx => by simp at hx⟩
        | cons x es ih =>
          intro he
          cases ms with
          | nil => simp [ER] at he
          | cons y ms =>
            obtain ⟨k1, k2, k3⟩ := he.2 0 x y rfl rfl
            have ih := ih ms ⟨by simpa using he.1, fun i p q hp hq => he.2 (i + 1) p q (by simpa using hp) (by simpa using hq)⟩
            rw [List.filter_cons, List.filter_cons, hf x y k3]
            cases hb : !(lmem x.born q.seen) with
            | true =>
              simp only [if_true]
              refine ⟨by simp [ih.1], fun i p r hp hr => ?_⟩
              cases i with
              | zero => simp at hp hr; subst hp; subst hr; exact ⟨k1, k2, k3⟩
              | succ i => exact ih.2 i p r (by simpa using hp) (by simpa using hr)
            | false => simpa using ih
      have hg' : (!q.seen.reverse.toArray.isEmpty && !ms.toArray.isEmpty && ms.toArray.all (fun e => decide (e.born ≥ q.stepped))) = false := by
        rw [← hguard]
        have e1 : q.seen.reverse.toArray.isEmpty = isEmpty q.seen := by
          cases q.seen <;> simp [isEmpty]
        have e2 : ms.toArray.isEmpty = isEmpty mp.es := by
          cases hes : mp.es with
          | nil => rw [hes] at he; have : ms = [] := List.eq_nil_of_length_eq_zero he.1.symm; subst this; rfl
          | cons x xs => rw [hes] at he; cases hms : ms with
            | nil => rw [hms] at he; simp [ER] at he
            | cons y ys => simp [isEmpty]
        have e3 : ms.toArray.all (fun e => decide (e.born ≥ q.stepped)) = lall (fun e => Nat.ble q.stepped e.born) mp.es := by
          rw [lall_eq, Bool.eq_iff_iff]
          simp only [List.all_toArray, List.all_eq_true, decide_eq_true_eq, ble_iff]
          constructor
          · intro h x hx
            obtain ⟨i, hi, rfl⟩ := List.getElem_of_mem hx
            have hi' : i < ms.length := by rw [← he.1]; exact hi
            have := h ms[i] (List.getElem_mem hi')
            rw [hborn i mp.es[i] ms[i] (by simp [hi]) (by simp [hi'])] at this
            exact this
          · intro h y hy
            obtain ⟨i, hi, rfl⟩ := List.getElem_of_mem hy
            have hi' : i < mp.es.length := by rw [he.1]; exact hi
            have := h mp.es[i] (List.getElem_mem hi')
            rw [hborn i mp.es[i] ms[i] (by simp [hi']) (by simp [hi])]
            exact this
        rw [e1, e2, e3, Bool.and_assoc]
      have hflt : ms.toArray.filter (fun e => !(q.seen.reverse.toArray.contains e.born)) = (ms.filter fun e => !(q.seen.reverse.toArray.contains e.born)).toArray := by simp
      generalize (mp.es.filter fun e => !(lmem e.born q.seen)) = lf at h hleft
      generalize (ms.filter fun e => !(q.seen.reverse.toArray.contains e.born)) = lm at hflt hleft
      cases lf with
      | nil =>
        have : lm = [] := List.eq_nil_of_length_eq_zero hleft.1.symm
        subst this
        simp only [List.getElem?_nil, oel_none, over_some] at h
        obtain ⟨rfl, rfl⟩ := h
        refine ⟨_, w, ?_, VR_over E, hA.sim, Grow.refl _ _ _ _⟩
        unfold Instr.next
        simp only [hoff, Nat.add_zero, Sem.run_bind, run_getObj' hb (by simp), Result.andThen_ok, run_getObj' hbm (by simp), hg', Bool.false_eq_true, if_false, hflt]
        simp [show (Question.mapNext 1).forced = true from rfl]
      | cons x xs =>
        cases lm with
        | nil => simp [ER] at hleft
        | cons y ys =>
          simp only [List.getElem?_cons_zero, oel_some, tst_some, Option.some.injEq, Prod.mk.injEq, ldrop_eq, List.drop_succ_cons, List.drop_zero, isEmpty_iff, blt_iff] at h
          obtain ⟨rfl, hlt', rfl, rfl⟩ := h
          have : ys = [] := List.eq_nil_of_length_eq_zero (by have := hleft.1; simpa using this.symm)
          subst this
          obtain ⟨k1, k2, k3⟩ := hleft.2 0 x y rfl rfl
          rw [← k3] at hlt'
          obtain ⟨hS', hG⟩ := hA.sim.mod (ob := .mapIter (some k.blk) q.since (q.seen.reverse.toArray.push y.born) mp.clock) (o' := .miter (some m) q.since (x.born :: q.seen) mp.clock) hob trivial hl
            ⟨hoff, some k.blk, by rw [setBlk_same hlt]; simp [k3], k, hk, rfl⟩ S.next
          refine ⟨.tuple #[.bool true, y.key, y.val], _, ?_, ?_, hS', hG⟩
          · unfold Instr.next
            simp only [hoff, Nat.add_zero, Sem.run_bind, run_getObj' hb (by simp), Result.andThen_ok, run_getObj' hbm (by simp), hg', Bool.false_eq_true, if_false, hflt]
            have ho1 : (#[y] : Array MapEntry).filter (fun e => decide (e.born < q.since)) = #[y] := by simp [hlt']
            have ho2 : (#[y] : Array MapEntry).filter (fun e => decide (e.born ≥ q.since)) = #[] := by simp; omega
            simp [hlt', Nat.not_le.2 hlt', show (Question.mapNext 1).forced = true from rfl, run_setObj' hb]
          · simp only [VR]
            exact ⟨[.bool true, y.key, y.val], rfl, by simp only [VRL]; exact ⟨_, _, rfl, by simp [VR], _, _, rfl, k1, _, _, rfl, k2, rfl⟩⟩
end Go.Ev
namespace Go.Ev
theorem byteCells_CR (E : Env) {s : List Nat} (h : ∀ x ∈ s, x < 256) : CR E (rflat (byteCells s)) (s.map fun b => Value.int .u8 (.ofNat b)) := by
  have e : rflat (byteCells s) = s.map (fun b => AV.int .u8 (.ofNat b)) := by
    unfold byteCells
    rw [lmap_eq]
    induction s with
    | nil => simp [rflat_nil]
    | cons x s ih => rw [List.map_cons, rflat_cons, ih (fun y hy => h y (by simp [hy]))]; simp
  rw [e]
  refine ⟨by simp, fun i a v ha hv => ?_⟩
  rw [List.getElem?_map] at ha hv
  cases hx : s[i]? with
  | none => simp [hx] at ha
  | some x =>
    simp [hx] at ha hv
    subst ha; subst hv
    exact ⟨by simp [VR], trivial⟩
theorem bytes_data {s : List Nat} (h : ∀ x ∈ s, x < 256) : (ByteArray.mk (s.map UInt8.ofNat).toArray).data.map (fun b => Value.int .u8 b.toNat) = (s.map fun b => Value.int .u8 (.ofNat b)).toArray := by
  apply Array.toList_inj.1
  simp only [Array.toList_map, List.map_map]
  apply List.map_congr_left
  intro x hx
  simp [Nat.mod_eq_of_lt (h x hx)]
/-- A slice's first cells. -/
theorem srcSl_sound {P : Program} {E : Env} {S : AW} {w : World} (hS : Sim E S w) {size n : Nat} {s : Sl} {cs : RL} {xv : Value} (h : srcCells S size n (.sl s.i s.off s.len s.cap) = some cs) (hx : VR E (.sl s.i s.off s.len s.cap) xv) :
    ∃ vs, (∀ w', w'.heap = w.heap → (Builtin.firstCells size n xv).run P w' = .ok (List.toArray vs) w') ∧ CR E (rflat cs) vs := by
  have e : srcCells S size n (.sl s.i s.off s.len s.cap) = iteB (Nat.beq n 0) (some []) (ob (rcells S s.i) fun rs => rext rs s.off (Nat.mul n size)) := rfl
  rw [e, iteB_eq] at h
  obtain ⟨l, k, hl, rfl, hle⟩ := sl_val hx
  by_cases h0 : n = 0
  · rw [if_pos (by rw [h0]; rfl)] at h
    cases h
    refine ⟨[], fun w' _ => ?_, CR.nil E⟩
    simp [Builtin.firstCells, h0, loadCells, loadCellsFrom]
  · rw [if_neg (by rw [beq_of_ne h0]; simp), ob_some] at h
    obtain ⟨rs, hrs, hr⟩ := h
    obtain ⟨l', pre, mid, post, e, fr, hl', hblk, hpre, hc⟩ := rcells_sound hS hrs
    rw [hl] at hl'; cases hl'
    obtain ⟨h1, h2⟩ := rext_some hr
    have hcc := (hc.drop s.off).take (n * size)
    rw [show (List.take (n * size) (List.drop s.off (rflat rs))) = rflat cs from h1.symm] at hcc
    refine ⟨_, fun w' hw => ?_, hcc⟩
    rw [← hw] at hblk
    have := run_loadMid (P := P) hblk s.off (n * size) (by rw [← hcc.1]; exact h2)
    rw [hpre] at this
    exact this
theorem srcCells_sound {P : Program} {E : Env} {S : AW} {w : World} (hS : Sim E S w) {size n : Nat} {x : AV} {cs : RL} {xv : Value} (h : srcCells S size n x = some cs) (hx : VR E x xv) (hn : ∀ s, x = .str s → n = s.length) :
    ∃ vs, (∀ w', w'.heap = w.heap → (Builtin.firstCells size n xv).run P w' = .ok (List.toArray vs) w') ∧ CR E (rflat cs) vs := by
  cases hs : dSl x with
  | some s =>
    rw [dSl_some] at hs
    subst hs
    exact srcSl_sound hS h hx
  | none =>
    simp only [srcCells, hs, oel_none] at h
    cases hst : dStr x with
    | some s =>
      simp only [hst, oel_some, Option.some.injEq] at h
      rw [dStr_some] at hst
      subst hst
      subst h
      simp only [VR] at hx
      obtain ⟨rfl, h256⟩ := hx
      refine ⟨s.map fun b => Value.int .u8 (.ofNat b), fun w' _ => ?_, byteCells_CR E h256⟩
      have := hn s rfl
      subst this
      have e : (ByteArray.mk (s.map UInt8.ofNat).toArray).extract 0 s.length = ByteArray.mk (s.map UInt8.ofNat).toArray := by
        rw [bytes_extract]; simp
      simp only [bytesV, Builtin.firstCells, e, bytes_data h256, Sem.run_pure]
    | none =>
      simp only [hst, oel_none, tst_some, isNsl_iff, Option.some.injEq] at h
      obtain ⟨rfl, rfl⟩ := h
      simp only [VR] at hx
      subst hx
      exact ⟨[], fun w' _ => rfl, CR.nil E⟩
theorem lenOfV_sound {P : Program} {E : Env} {x : AV} {n : Nat} {xv : Value} (h : lenOfV x = some n) (hx : VR E x xv) : (∀ w, (Builtin.lenOf xv).run P w = .ok n w) ∧ ∀ s, x = .str s → n = s.length := by
  unfold lenOfV at h
  cases hs : dSl x with
  | some s =>
    simp only [hs, oel_some, Option.some.injEq] at h
    rw [dSl_some] at hs
    subst hs; subst h
    obtain ⟨l, k, _, rfl, _⟩ := sl_val hx
    exact ⟨fun w => rfl, fun s h => by cases h⟩
  | none =>
    simp only [hs, oel_none] at h
    cases hst : dStr x with
    | some s =>
      simp only [hst, oel_some, Option.some.injEq] at h
      rw [dStr_some] at hst
      subst hst; subst h
      simp only [VR] at hx
      obtain ⟨rfl, _⟩ := hx
      refine ⟨fun w => ?_, fun t h => by cases h; rw [llen_eq]⟩
      simp [Builtin.lenOf, bytesV, ByteArray.size, llen_eq]
    | none =>
      simp only [hst, oel_none, tst_some, isNsl_iff, Option.some.injEq] at h
      obtain ⟨rfl, rfl⟩ := h
      simp only [VR] at hx
      subst hx
      exact ⟨fun w => rfl, fun s h => by cases h⟩
def BHok (f : BH) (b : Builtin) : Prop := ∀ {C : Cx} {E : Env} {S S' : AW} {w : World} {ts : Array TypeId} {ty : TypeId} {cs : Array Bool} {args : List AV} {vs : Array Value} {v : AV}, TTok C.P C.tt → Sim E S w → LR E args vs.toList → f C S ts.toList args = some (v, S') →
  ∃ x w' E', (Go.builtin b ts ty cs vs).run C.P w = .ok (.value x) w' ∧ VR E' v x ∧ Sim E' S' w' ∧ Grow S.next E S w E' S' w'
theorem aBuiltin_ok {f : BH} {b : Builtin} (h : BHok f b) (c : Call) (hc : c.callee = .builtin b) : AHok (aBuiltin f c) (.call c) := by
  intro C R rnd E S S' w tm act o v ho hA hh
  simp only [aBuiltin, ob_some] at hh
  obtain ⟨args, hargs, hh⟩ := hh
  have hl := hA.evs hargs
  obtain ⟨x, w', E', h1, h2, h3, h4⟩ := h (ty := o.type) (cs := c.args.map fun | .const _ => true | _ => false) (vs := c.args.map act.eval) hA.ty hA.sim (by simpa using hl) hh
  exact ⟨x, w', E', .inl (by rw [exec_builtin ho hc]; exact h1), h2, h3, h4⟩
theorem LR.arg {E : Env} {args : List AV} {vs : Array Value} (h : LR E args vs.toList) {i : Nat} {a : AV} (ha : lget args i = some a) : ∃ v, vs[i]? = some v ∧ VR E a v := by
  rw [lget_eq] at ha
  obtain ⟨v, h1, h2⟩ := LR.get h ha
  exact ⟨v, by simpa using h1, h2⟩
theorem lget_arr {α : Type} {a : Array α} {i : Nat} {x : α} (h : lget a.toList i = some x) : a[i]? = some x := by rw [lget_eq] at h; simpa using h
theorem eraseE_nil (n : Nat) : eraseE [] n = [] := rfl
theorem eraseE_zero (e : Ent) (l : List Ent) : eraseE (e :: l) 0 = l := rfl
theorem eraseE_succ (e : Ent) (l : List Ent) (n : Nat) : eraseE (e :: l) (n + 1) = e :: eraseE l n := rfl
theorem eraseE_eq : ∀ (l : List Ent) (n : Nat), eraseE l n = l.eraseIdx n
  | [], n => by rw [eraseE_nil]; simp
  | e :: l, 0 => by rw [eraseE_zero]; simp
  | e :: l, n + 1 => by rw [eraseE_succ, eraseE_eq l n]; simp
theorem ER.erase {E : Env} {es : List Ent} {ms : List MapEntry} (h : ER E es ms) (n : Nat) : ER E (es.eraseIdx n) (ms.eraseIdx n) := by
  refine ⟨by simp [List.length_eraseIdx, h.1], fun i x y hx hy => ?_⟩
  rw [List.getElem?_eraseIdx] at hx hy
  split at hx
  · rename_i hi; rw [if_pos hi] at hy; exact h.2 i x y hx hy
  · rename_i hi; rw [if_neg hi] at hy; exact h.2 _ x y hx hy
theorem VR_unit (E : Env) : VR E (.tup []) (.tuple #[]) := VR_undef E
theorem bDelete_ok : BHok bDelete .delete := by
  intro C E S S' w ts ty cs args vs v hT hS hl h
  simp only [bDelete, deleteV, ob_some, tst_some, dMapT_some, Option.some.injEq, Prod.mk.injEq] at h
  obtain ⟨t, ht, m, hm, k, hk, d, hd, p, hp, q, hq, hke, r, hr, rfl, rfl⟩ := h
  obtain ⟨mv, hm1, hm2⟩ := hl.arg hm
  obtain ⟨kv, hk1, hk2⟩ := hl.arg hk
  have hU := hT.runU hd
  rw [hp] at hU
  obtain ⟨_, hob, l, ms, hlo, rfl, hb, he⟩ := mapOf_sound hS hq hm2
  have hlt : l.blk < w.heap.size := (Array.getElem?_eq_some_iff.1 hb).1
  have hemp : ms.toArray.isEmpty = ms.isEmpty := by cases ms <;> simp
  obtain ⟨r', hf, hFR⟩ := findKey_ok hT hke (fun h => isEmpty_iff.1 h) hk2 hr he
  have hck := checkKey_ok hT hke hk2 ms.isEmpty 9998
  have hrun : ∀ {w'}, (Builtin.delete_ ts ty vs).run C.P w = .ok (.tuple #[]) w' → (Go.builtin .delete ts ty cs vs).run C.P w = .ok (.value (.tuple #[])) w' := fun h => run_v' h
  cases r with
  | none =>
    have hFR : r' = none := hFR
    subst hFR
    refine ⟨_, w, E, hrun ?_, VR_unit E, hS, Grow.refl _ _ _ _⟩
    unfold Builtin.delete_
    simp only [lget_arr ht, hm1, hk1, Sem.run_bind, hU, Result.andThen_ok, run_getObj' hb (by simp), hemp, hck, hf, run_setObj' hb (by simp), setBlk_self hb, Sem.run_pure]
  | some p' =>
    obtain ⟨x, rfl, hx, _⟩ := hFR
    obtain ⟨hS', hG⟩ := hS.mod (ob := .map (ms.eraseIdx p'.1).toArray q.clock) (o' := .map (eraseE q.es p'.1) q.clock) hob trivial hlo
      ⟨_, setBlk_same hlt, by rw [eraseE_eq]; exact he.erase _⟩ S.next
    refine ⟨_, _, E, hrun ?_, VR_unit E, hS', hG⟩
    unfold Builtin.delete_
    have e1 : ms.toArray.eraseIdxIfInBounds p'.1 = (ms.eraseIdx p'.1).toArray := by
      rw [List.eraseIdxIfInBounds_toArray]
    simp only [lget_arr ht, hm1, hk1, Sem.run_bind, hU, Result.andThen_ok, run_getObj' hb (by simp), hemp, hck, hf, run_setObj' hb (by simp), e1, Sem.run_pure]
theorem bClear_ok : BHok bClear .clear := by
  intro C E S S' w ts ty cs args vs v hT hS hl h
  simp only [bClear, clearV, ob_some] at h
  obtain ⟨t, ht, d, hd, x, hx, h⟩ := h
  have hx0 : lget args 0 = some x := by
    unfold one1 at hx
    rw [tst_some] at hx
    exact hx.2
  obtain ⟨xv, hx1, hx2⟩ := hl.arg hx0
  have hU := hT.runU hd
  have hrun : ∀ {w'}, (Builtin.clear_ ts ty vs).run C.P w = .ok (.tuple #[]) w' → (Go.builtin .clear ts ty cs vs).run C.P w = .ok (.value (.tuple #[])) w' := fun h => run_v' h
  cases hm : dMap x with
  | none =>
    simp only [hm, oel_none, tst_some, orB_eq, Bool.or_eq_true, isNmap_iff, isNsl_iff, Option.some.injEq, Prod.mk.injEq] at h
    obtain ⟨hn, rfl, rfl⟩ := h
    refine ⟨_, w, E, hrun ?_, VR_unit E, hS, Grow.refl _ _ _ _⟩
    unfold Builtin.clear_
    rcases hn with rfl | rfl
    · simp only [VR] at hx2
      subst hx2
      simp only [lget_arr ht, hx1, Sem.run_bind, hU, Result.andThen_ok, Sem.run_pure]
    · simp only [VR] at hx2
      subst hx2
      simp only [lget_arr ht, hx1, Sem.run_bind, hU, Result.andThen_ok, Sem.run_pure]
  | some i =>
    simp only [hm, oel_some, ob_some, dMp_some, Option.some.injEq, Prod.mk.injEq] at h
    obtain ⟨o, hob, mp, rfl, rfl, rfl⟩ := h
    rw [dMap_some] at hm
    subst hm
    simp only [VR] at hx2
    obtain ⟨l, hlo, rfl⟩ := hx2
    obtain ⟨l', hl', ms, hb, he⟩ := hS.obj _ _ hob
    rw [hlo] at hl'; cases hl'
    have hlt : l.blk < w.heap.size := (Array.getElem?_eq_some_iff.1 hb).1
    obtain ⟨hS', hG⟩ := hS.mod (ob := .map #[] mp.clock) (o' := .map [] mp.clock) hob trivial hlo ⟨[], setBlk_same hlt, rfl, fun i x y hx => by simp at hx⟩ S.next
    refine ⟨_, _, E, hrun ?_, VR_unit E, hS', hG⟩
    unfold Builtin.clear_
    simp only [lget_arr ht, hx1, Sem.run_bind, hU, Result.andThen_ok, run_getObj' hb (by simp), run_setObj' hb (by simp), Sem.run_pure]
end Go.Ev
namespace Go.Ev
theorem off0 {E : Env} {w : World} {l : Loc} {e : TypeId} {rs : RL} {op : Option Nat} (h : OR E w l (.cells e rs op)) : l.off = 0 := by
  obtain ⟨pre, mid, post, fr, _, hpre, _, _, hop⟩ := h
  cases op with
  | none => rw [← hpre, hop.1]; rfl
  | some z => rw [← hpre, hop.1]; rfl
theorem bCopy_ok : BHok bCopy .copy := by
  intro C E S S' w ts ty cs args vs v hT hS hl h
  simp only [bCopy, copyV, ob_some, sliceElem_some, tsize_some] at h
  obtain ⟨dt, hdt, d, hd, x, hx, e, ⟨dd, hdd, hde⟩, z, ⟨de, hdz, rfl⟩, m, hm, h⟩ := h
  obtain ⟨dv, hd1, hd2⟩ := hl.arg hd
  obtain ⟨xv, hx1, hx2⟩ := hl.arg hx
  have hU := hT.runU hdd
  rw [hde] at hU
  obtain ⟨hlen, hstr⟩ := lenOfV_sound (P := C.P) hm hx2
  have hrun : ∀ {y w'}, (Builtin.copy_ ts ty vs).run C.P w = .ok y w' → (Go.builtin .copy ts ty cs vs).run C.P w = .ok (.value y) w' := fun h => run_v' h
  -- what is loaded of the first ones
  have first0 : ∀ w, (Builtin.firstCells de.size 0 xv).run C.P w = .ok #[] w := by
    intro w
    unfold lenOfV at hm
    cases hs : dSl x with
    | some s =>
      rw [dSl_some] at hs
      subst hs
      obtain ⟨l, k, _, rfl, _⟩ := sl_val hx2
      simp [Builtin.firstCells, loadCells, loadCellsFrom]
    | none =>
      rw [hs, oel_none] at hm
      cases hst : dStr x with
      | some s =>
        rw [dStr_some] at hst
        subst hst
        simp only [VR] at hx2
        obtain ⟨rfl, _⟩ := hx2
        simp only [bytesV, Builtin.firstCells, bytes_extract, Sem.run_pure]
        simp
      | none =>
        simp only [hst, oel_none, tst_some, isNsl_iff] at hm
        obtain ⟨rfl, _⟩ := hm
        simp only [VR] at hx2
        subst hx2
        rfl
  cases hs : dSl d with
  | none =>
    simp only [hs, oel_none, tst_some, isNsl_iff, Option.some.injEq, Prod.mk.injEq] at h
    obtain ⟨rfl, rfl, rfl⟩ := h
    simp only [VR] at hd2
    subst hd2
    refine ⟨.int .i64 (.ofNat 0), w, E, hrun ?_, by simp [VR], hS, Grow.refl _ _ _ _⟩
    unfold Builtin.copy_
    have : Nat.min m 0 = 0 := by simp
    simp only [lget_arr hdt, hd1, hx1, Sem.run_bind, hU, Result.andThen_ok, hlen, hT.runS hdz, this, first0, Sem.run_pure, goInt]
    rfl
  | some s =>
    rw [hs, oel_some] at h
    rw [dSl_some] at hs
    subst hs
    obtain ⟨l, k, hlo, rfl, hle⟩ := sl_val hd2
    have hmin : iteB (Nat.ble m s.len) m s.len = Nat.min m s.len := by
      rw [iteB_eq]
      by_cases hb : m ≤ s.len
      · rw [if_pos (ble_iff.2 hb)]; exact (Nat.min_eq_left hb).symm
      · rw [if_neg (by rw [ble_iff]; exact hb)]; exact (Nat.min_eq_right (by omega)).symm
    rw [hmin] at h
    generalize hn : Nat.min m s.len = n at h
    unfold copyTo at h
    rw [iteB_eq] at h
    by_cases h0 : n = 0
    · rw [if_pos (by rw [h0]; rfl)] at h
      cases h
      refine ⟨.int .i64 (.ofNat 0), w, E, hrun ?_, by simp [VR], hS, Grow.refl _ _ _ _⟩
      unfold Builtin.copy_
      simp only [lget_arr hdt, hd1, hx1, Sem.run_bind, hU, Result.andThen_ok, hlen, hT.runS hdz, hn, h0, first0, Sem.run_pure, goInt]
      rfl
    · rw [if_neg (by rw [beq_of_ne h0]; simp)] at h
      simp only [ob_some, tst_some, Option.some.injEq, Prod.mk.injEq] at h
      obtain ⟨cs', hcs, hlen', S2, hS2, rfl, rfl⟩ := h
      have hnm : n ≤ m := by rw [← hn]; exact Nat.min_le_left _ _
      have hsrc : ∃ vs, (Builtin.firstCells de.size n xv).run C.P w = .ok (List.toArray vs) w ∧ CR E (rflat cs') vs := by
        cases hst : dStr x with
        | some t =>
          rw [dStr_some] at hst
          subst hst
          have hmt := hstr t rfl
          simp only [VR] at hx2
          obtain ⟨rfl, h256⟩ := hx2
          have e1 : srcCells S de.size n (.str (ltake t n)) = some (byteCells (ltake t n)) := rfl
          have hcs : srcCells S de.size n (.str (ltake t n)) = some cs' := hcs
          rw [e1] at hcs
          cases hcs
          have h256' : ∀ x ∈ ltake t n, x < 256 := fun x hx => h256 x (List.mem_of_mem_take (by rw [ltake_eq] at hx; exact hx))
          refine ⟨(ltake t n).map fun b => Value.int .u8 (.ofNat b), ?_, byteCells_CR E h256'⟩
          simp only [bytesV, Builtin.firstCells, bytes_extract, List.drop_zero, Nat.sub_zero, Sem.run_pure]
          rw [ltake_eq] at h256' ⊢
          rw [bytes_data h256']
        | none =>
          have : srcCells S de.size n x = some cs' := by
            rw [← hcs]
            cases x <;> first | rfl | (simp [dStr] at hst)
          obtain ⟨vs', q1, q2⟩ := srcCells_sound (P := C.P) hS this hx2 (fun s h => by subst h; simp [dStr] at hst)
          exact ⟨vs', q1 w rfl, q2⟩
      obtain ⟨vs', hf, hc⟩ := hsrc
      obtain ⟨w', hw, hS', hG⟩ := storeCellsV_sound (P := C.P) hS hS2 hlo hc S.next
      refine ⟨.int .i64 (.ofNat n), w', E, hrun ?_, by simp [VR], hS', hG⟩
      unfold Builtin.copy_
      simp only [lget_arr hdt, hd1, hx1, Sem.run_bind, hU, Result.andThen_ok, hlen, hT.runS hdz, hn, hf, hw, Sem.run_pure, goInt]
      rfl
theorem freeze_eq {w : World} {b n : Nat} {c : Array Value} {e : TypeId} {fr : Nat × Nat} (h : w.heap[b]? = some (.cells c e fr)) (hn : n ≠ 0) (o : Nat) :
    w.freeze ⟨b, o, none⟩ n = w.setBlk b (.cells c e (if fr.1 == fr.2 then (o, o + n) else (min fr.1 o, max fr.2 (o + n)))) := by
  have hb := (Array.getElem?_eq_some_iff.1 h).1
  have hv := (Array.getElem?_eq_some_iff.1 h).2
  unfold World.freeze
  rw [if_neg hn]
  simp only [World.setBlk]
  congr 1
  apply Array.ext_getElem?
  intro k
  rw [Array.getElem?_setIfInBounds, Array.getElem?_modify]
  by_cases hk : b = k
  · subst hk; simp [hb, hv]
  · simp [hk]
theorem cells_size2 {vs : Array Value} {a b : Value} (h : vs.size = 2) (h1 : vs[0]? = some a) (h2 : vs[1]? = some b) : vs = #[a, b] := by
  apply Array.ext_getElem?
  intro i
  rcases Nat.lt_or_ge i 2 with hi | hi
  · rcases Nat.lt_or_ge i 1 with hj | hj
    · have : i = 0 := by omega
      subst this; simp [h1]
    · have : i = 1 := by omega
      subst this; simp [h2]
  · rw [Array.getElem?_eq_none (by omega), Array.getElem?_eq_none (by simp; omega)]
theorem bString_ok : BHok bString .unsafeString := by
  intro C E S S' w ts ty cs args vs v hT hS hl h
  simp only [bString, unsafeStringV, ob_some, tst_some, llen_eq] at h
  obtain ⟨pt, hpt, h2, p, hp, lx, hlx, n, hn, hn20, h⟩ := h
  have hn20 := ble_iff.1 hn20
  obtain ⟨pv, hp1, hp2⟩ := hl.arg hp
  obtain ⟨lv, hl1, hl2⟩ := hl.arg hlx
  have h2 := eq_of_beq h2
  have hvs : vs = #[pv, lv] := cells_size2 (by have := hl.1; simp only [Array.length_toList] at this; omega) hp1 hl1
  obtain ⟨ik, rfl⟩ := dNat_VR hn hl2
  have hmax : IntKind.i64.max = 9223372036854775807 := rfl
  have hpt := lget_arr hpt
  rw [iteB_eq] at h
  by_cases h0 : n = 0
  · rw [if_pos (by rw [h0]; rfl), tst_some] at h
    obtain ⟨hk, h⟩ := h
    cases h
    subst h0
    refine ⟨.string .empty, w, E, run_v' ?_, by simp only [VR, bytesV]; exact ⟨rfl, fun x hx => by simp at hx⟩, hS, Grow.refl _ _ _ _⟩
    rw [orB_eq, Bool.or_eq_true, isNptr_iff, isSomeB_eq, Option.isSome_iff_exists] at hk
    rcases hk with rfl | ⟨q, hq⟩
    · simp only [VR] at hp2
      subst hp2
      have hdef : Builtin.unsafeString_ ts ty #[.pointer none, .int ik (Int.ofNat 0)] =
        (do
          let n ← asInt (.int ik (Int.ofNat 0))
          let some pt := ts[0]? | stuck "unsafe.String: no argument types"
          if n < 0 then runtimePanic (.error "unsafe.String: len out of range")
          if n > IntKind.i64.max then unsupported (.unsafePointer "String: a length above the largest int")
          if n = 0 then pure (.string .empty)
          else runtimePanic (.error "unsafe.String: ptr is nil and len is not zero")) := rfl
      rw [hvs, hdef]
      simp [asInt, asIntOf, hmax, hpt]
    · rw [dPtr_some] at hq
      subst hq
      simp only [VR] at hp2
      obtain ⟨l, _, rfl⟩ := hp2
      have hdef : ∀ a, Builtin.unsafeString_ ts ty #[.pointer (some a), .int ik (Int.ofNat 0)] =
        (do
          let n ← asInt (.int ik (Int.ofNat 0))
          let some pt := ts[0]? | stuck "unsafe.String: no argument types"
          if n < 0 then runtimePanic (.error "unsafe.String: len out of range")
          if n > IntKind.i64.max then unsupported (.unsafePointer "String: a length above the largest int")
          if n = 0 then pure (.string .empty)
          else if ← variablesAt a (← elemOf pt) n.toNat then do
            let s ← loadBytes a .empty n.toNat
            freeze a n.toNat
            pure (.string s)
          else unsupported (.unsafePointer "String: not so many bytes at ptr")) := fun a => rfl
      rw [hvs, hdef]
      simp [asInt, asIntOf, hmax, hpt]
  · rw [if_neg (by rw [beq_of_ne h0]; simp)] at h
    simp only [ob_some, tst_some, dPtr_some, dPtrT_some, dRow_some, tsize_some, Option.some.injEq, Prod.mk.injEq] at h
    obtain ⟨a, rfl, ha0, d, hd, u, hu, o, hob, r, rfl, hue, hu8, z, ⟨du, hdu, rfl⟩, hz1, c, hc, s, hs, rfl, rfl⟩ := h
    have ha0 := eq_of_beq ha0
    have hue := eq_of_beq hue
    have hz1 := eq_of_beq hz1
    simp only [VR] at hp2
    obtain ⟨l, hlo, rfl⟩ := hp2
    obtain ⟨l', hl', hO⟩ := hS.obj _ _ hob
    rw [hlo] at hl'; cases hl'
    have hoff := off0 hO
    obtain ⟨pre, mid, post, fr, hblk, hpre, hcm, hfr, hop⟩ := hO
    have hpre0 : pre = [] := by apply List.eq_nil_of_length_eq_zero; rw [hpre, hoff]
    subst hpre0
    obtain ⟨e1, e2⟩ := rext_some hc
    obtain ⟨e3, e4⟩ := bytesOfR_some hs
    have hcc := (hcm.drop 0).take n
    rw [← e1, e3] at hcc
    have hv := CR_bytes hcc
    have hsn : s.length = n := by rw [← e2, e3]; simp
    have hml : n ≤ mid.length := by
      have := hcc.1
      simp only [List.length_map, List.length_take, List.length_drop] at this
      omega
    have hlt : l.blk < w.heap.size := (Array.getElem?_eq_some_iff.1 hblk).1
    obtain ⟨inf, hinf, _, hsz, _⟩ := hT.ok _ _ hdu
    have hcells : C.P.cellsOf u = 1 := by simp [Program.cellsOf, hinf, hsz, hz1]
    have hU : C.P.underlying pt = some (.pointer u) := by rw [hT.und hd, hu]
    have hlb := Go.Lib.run_loadBytes (P := C.P) w (s.map UInt8.ofNat) ⟨l.blk, 0, none⟩ .empty (by
      intro j x hx
      rw [addr_add, cell_row hblk]
      rw [List.getElem?_map] at hx
      cases hj : s[j]? with
      | none => simp [hj] at hx
      | some y =>
        simp [hj] at hx
        subst hx
        have hjn : j < n := by rw [← hsn]; exact (List.getElem?_eq_some_iff.1 hj).1
        have := congrArg (fun l : List Value => l[j]?) hv
        simp only [List.drop_zero, List.getElem?_take, hjn, if_true, List.getElem?_map, hj, Option.map_some] at this
        rw [Nat.zero_add, List.nil_append, List.getElem?_append_left (by omega), this]
        have hy := e4 y (List.mem_of_getElem? hj)
        simp [Nat.mod_eq_of_lt hy])
    have hlies := Go.Lib.liesAt_bytes (P := C.P) hcells ((mid ++ post).length / C.P.cellsOf u) n (by rw [hcells, Nat.div_one]; simp; omega)
    have hdef : ∀ a, Builtin.unsafeString_ ts ty #[.pointer (some a), .int ik (Int.ofNat n)] =
        (do
          let n ← asInt (.int ik (Int.ofNat n))
          let some pt := ts[0]? | stuck "unsafe.String: no argument types"
          if n < 0 then runtimePanic (.error "unsafe.String: len out of range")
          if n > IntKind.i64.max then unsupported (.unsafePointer "String: a length above the largest int")
          if n = 0 then pure (.string .empty)
          else if ← variablesAt a (← elemOf pt) n.toNat then do
            let s ← loadBytes a .empty n.toNat
            freeze a n.toNat
            pure (.string s)
          else unsupported (.unsafePointer "String: not so many bytes at ptr")) := fun a => rfl
    have hsh : w.shape? l.blk = some (u, (mid ++ post).length) := by simp [World.shape?, hblk, hue]
    have hneg : ¬ ((n : Int) < 0) := by omega
    have h63 : ¬ ((9223372036854775807 : Int) < (n : Int)) := by omega
    obtain ⟨hS', hG⟩ := hS.mod (ob := .cells (mid ++ post).toArray r.e (if fr.1 == fr.2 then (0, 0 + n) else (min fr.1 0, max fr.2 (0 + n)))) (o' := .ro r.rs) hob trivial hlo
      ⟨[], mid, post, r.e, _, by rw [setBlk_same hlt]; rfl, by simp [hoff], hcm⟩ S.next
    refine ⟨.string ⟨(s.map UInt8.ofNat).toArray⟩, _, E, run_v' ?_, by simp only [VR, bytesV]; exact ⟨trivial, e4⟩, hS', hG⟩
    rw [← freeze_eq (by simpa using hblk) h0 0]
    rw [List.length_map, hsn] at hlb
    rw [hvs, hdef, hoff, ha0]
    simp [asInt, asIntOf, hmax, hpt, hneg, h63, h0, variablesAt, hsh, elemOf, run_underlying hU]
    have hlies' : liesAt C.P C.P.depth u ((mid.length + post.length) / C.P.cellsOf u) 0 u n = true := by simpa using hlies
    simp [hlies', hlb]
end Go.Ev
namespace Go.Ev
/-- A block taken over by a new name, its old one given up. -/
theorem Sim.take {E : Env} {S : AW} {w : World} {i : Nat} {o o' : AObj} {l l' : Loc} {ob : Obj} (h : Sim E S w) (hi : S.heap.get i = some o) (hw : wr o) (hl : E.loc i = some l) (hb : l'.blk = l.blk) (ho : OR (E.put S.next l') (w.setBlk l.blk ob) l' o') :
    Sim (E.put S.next l') ((S.put i .dead).add o') (w.setBlk l.blk ob) ∧ Grow S.next E S w (E.put S.next l') ((S.put i .dead).add o') (w.setBlk l.blk ob) := by
  have hE := h.new S.next (Nat.le_refl _)
  obtain ⟨h1, g1⟩ := h.mod (ob := ob) (o' := .dead) hi hw hl trivial S.next
  have h2 := h1.put l' hE (n := S.next + 1) (Nat.le_succ _) (Nat.lt_succ_self _)
  have hne : i ≠ S.next := by rintro rfl; rw [hE] at hl; cases hl
  have h3 := h2.lay (Env.put_same E S.next l') ho (fun _ j oj lj hj hlv hlj hbj => by
    exfalso
    simp only [AW.put, T.get_set] at hj
    by_cases e : j = i
    · rw [if_pos e] at hj; cases hj; exact hlv
    · rw [if_neg e] at hj
      have hjn : j ≠ S.next := by
        rintro rfl
        obtain ⟨lx, hlx, _⟩ := h.obj _ _ hj
        rw [hE] at hlx; cases hlx
      rw [Env.put_other l' hjn] at hlj
      exact e (h.inj j i oj o lj l hj hi hlv (live_of_wr hw) hlj hl (by rw [hbj, hb])))
  refine ⟨h3, Env.put_le hE, rfl, rfl, rfl, g1.size, g1.keep, fun j oj lj hj hlv hlj => ?_, Nat.le_succ _, fun j hj hn => ?_⟩
  · simp only [AW.add, AW.put, T.get_set] at hj
    by_cases e : j = S.next
    · rw [if_pos e] at hj
      subst e
      rw [Env.put_same] at hlj; cases hlj
      exact .inr ⟨i, o, l, hi, live_of_wr hw, hl, hb.symm, fun _ => hw⟩
    · rw [if_neg e] at hj
      rw [Env.put_other l' e] at hlj
      exact g1.own j oj lj (by simp only [AW.put, T.get_set]; exact hj) hlv hlj
  · rw [Env.put_other l' (by omega)]; exact hn
theorem Sim.kill {E : Env} {S : AW} {w : World} {i : Nat} {l : Loc} (h : Sim E S w) (hl : E.loc i = some l) (n : Nat) : Sim E (S.put i .dead) w ∧ Grow n E S w E (S.put i .dead) w := by
  refine ⟨⟨fun j oj hj => ?_, fun j k oj ok lj lk hj hk h1 h2 h3 h4 h5 => ?_, h.new, h.glob⟩, Le.refl E, rfl, rfl, rfl, Nat.le_refl _, fun _ _ _ => rfl, fun j oj lj hj h1 h2 => ?_, Nat.le_refl _, fun j _ hj => hj⟩
  · simp only [AW.put, T.get_set] at hj
    by_cases e : j = i
    · rw [if_pos e] at hj
      cases hj
      subst e
      exact ⟨l, hl, trivial⟩
    · rw [if_neg e] at hj
      exact h.obj j oj hj
  · simp only [AW.put, T.get_set] at hj hk
    have key : ∀ j oj, (if j = i then some AObj.dead else S.heap.get j) = some oj → live oj → S.heap.get j = some oj := by
      intro j oj hj hlv
      by_cases e : j = i
      · rw [if_pos e] at hj; cases hj; exact absurd hlv (by simp [live])
      · rwa [if_neg e] at hj
    exact h.inj j k oj ok lj lk (key j oj hj h1) (key k ok hk h2) h1 h2 h3 h4 h5
  · simp only [AW.put, T.get_set] at hj
    by_cases e : j = i
    · rw [if_pos e] at hj; cases hj; exact absurd h1 (by simp [live])
    · rw [if_neg e] at hj
      exact .inr ⟨j, oj, lj, hj, h1, h2, rfl, fun x => x⟩
theorem growBy_le {newLen : Nat} : ∀ (r c : Nat), c ≤ newLen → Builtin.growBy newLen r c ≤ 2 * newLen + 192
  | 0, c, h => by unfold Builtin.growBy; omega
  | r + 1, c, h => by
    unfold Builtin.growBy
    split
    · omega
    · rename_i hc
      by_cases h2 : c + (c + 768) / 4 ≤ newLen
      · exact growBy_le r _ h2
      · cases r with
        | zero => unfold Builtin.growBy; omega
        | succ r => unfold Builtin.growBy; rw [if_pos (by omega)]; omega
theorem nextcap_le {need c : Nat} (h : c ≤ need) : Builtin.nextslicecap need c ≤ 2 * need + 512 := by
  unfold Builtin.nextslicecap
  split
  · omega
  · split
    · omega
    · have := growBy_le 4 c h
      omega
theorem zeroCells_eq {zl : List Value} {zv : Value} (h : zv.cells = zl.toArray) (n : Nat) : Builtin.zeroCells zv.cells n = (List.replicate n zl).flatten.toArray := by
  unfold Builtin.zeroCells
  rw [h, ← range_mod]
  apply Array.toList_inj.1
  simp
theorem drop_size {w : World} : w.drew.heap = w.heap := rfl
/-- A new row behind an append. -/
theorem grown_sound {E : Env} {S S' : AW} {w : World} (hS : Sim E S w) {e : TypeId} {size n c : Nat} {cs : RL} {v : AV} {vs post : List Value} (h : grown S e size n cs = some (v, S')) (hc : CR E (rflat cs) vs) (hn : n ≤ c) (hp : c * size ≤ (vs ++ post).length) :
    VR (E.put S.next ⟨w.heap.size, 0, c⟩) v (.slice (some ⟨w.heap.size, 0, none⟩) n c) ∧ Sim (E.put S.next ⟨w.heap.size, 0, c⟩) S' (w.drew.alloc (.cells (vs ++ post).toArray e)) ∧ Grow S.next E S w (E.put S.next ⟨w.heap.size, 0, c⟩) S' (w.drew.alloc (.cells (vs ++ post).toArray e)) := by
  simp only [grown, Option.some.injEq, Prod.mk.injEq] at h
  obtain ⟨rfl, rfl⟩ := h
  have hE := hS.new S.next (Nat.le_refl _)
  have hF : Fresh E w S.next (.cells e cs (some size)) ⟨w.heap.size, 0, c⟩ (w.drew.alloc (.cells (vs ++ post).toArray e)) := by
    refine ⟨rfl, rfl, rfl, ?_, fun b hb => ?_, ?_, fun _ => Nat.le_refl _⟩
    · rw [alloc_size]; exact Nat.le_succ _
    · exact alloc_old w.drew _ hb
    · exact ⟨[], vs, post, (0, 0), alloc_get w.drew _, rfl, hc.mono (Env.put_le hE), .inl rfl, rfl, hp⟩
  obtain ⟨h1, h2⟩ := hF.sim hS hE (n := S.next + 1) (Nat.le_succ _) (Nat.lt_succ_self _) (k := S.next) (Nat.le_refl _)
  refine ⟨?_, h1, h2⟩
  simp only [VR]
  exact ⟨_, Env.put_same E S.next _, by simpa using hn, by simp⟩
end Go.Ev
namespace Go.Ev
theorem append_run {P : Program} {tt : T Ty} (hT : TTok P tt) {E : Env} {S : AW} {w : World} (hS : Sim E S w) {ts : Array TypeId} {ty : TypeId} {vs : Array Value} {e st xt : TypeId} {d ds : Ty} {x : AV} {xv : Value} {n : Nat} {new z0 : RL}
    (hst : ts[0]? = some st) (hxt : ts[1]? = some xt) (hds : tt.get st = some ds) (hse : ds.und = .slice e) (hd : tt.get e = some d) (hz : zerosV tt e 0 = some z0)
    (h : appended tt S e d.size xt x = some (n, new)) (hx : VR E x xv) (hn : n ≤ 1048576) (hb : d.bytes ≤ 1048576) (hv1 : vs[1]? = some xv) {base : Option Addr} {sLen sCap : Nat} (hv0 : vs[0]? = some (.slice base sLen sCap)) :
    ∃ news zl : List Value, CR E (rflat new) news ∧ zl.length = d.size ∧
      (sLen + n ≤ sCap → (Builtin.append_ ts ty vs).run P w = ((match base with | some a => storeCells (a.add (sLen * d.size)) news | none => pure ()).run P w).andThen fun _ w' => .ok (.slice base (sLen + n) sCap) w') ∧
      (sCap < sLen + n → sLen ≤ 1048576 → ∀ old : List Value, (Builtin.firstCells d.size sLen (.slice base sLen sCap)).run P w.drew = .ok old.toArray w.drew →
        ∃ c, sLen + n ≤ c ∧ (Builtin.append_ ts ty vs).run P w = .ok (.slice (some ⟨w.heap.size, 0, none⟩) (sLen + n) c) (w.drew.alloc (.cells (old ++ (news ++ (List.replicate (c - (sLen + n)) zl).flatten)).toArray e))) := by
  obtain ⟨d', zv, zl, hd', hz1, hz2, hz3, _⟩ := zeros_sound hT hz
  rw [hd] at hd'; cases hd'
  have hU := hT.runU hds
  rw [hse] at hU
  have hSz : ∀ w, (sizeOf e).run P w = .ok d.size w := hT.runS hd
  have hB : ∀ w, ∃ i : TypeInfo, (typeInfo e).run P w = .ok i w ∧ i.bytes = d.bytes := fun w => let ⟨i, h1, h2, _⟩ := hT.runB hd w; ⟨i, h1, h2⟩
  obtain ⟨inf, hinf, _, hsz, hby, _⟩ := hT.ok _ _ hd
  have hI : ∀ w, (typeInfo e).run P w = .ok inf w := fun w => by simp [typeInfo, hinf]
  have hS' : Sim E S w.drew := hS.keep (fun b _ => rfl)
  simp only [appended, ob_some] at h
  obtain ⟨dx, hdx, h⟩ := h
  have hX := hT.runU hdx
  rw [iteB_eq] at h
  have wrapn : IntKind.i64.wrap (n : Int) = n := by
    have h1 := wrapN_eq .i64 n
    unfold wrapN at h1
    rw [show Nat.ble n (pmax .i64) = true from ble_iff.2 (Nat.le_trans hn (by decide)), iteB_true] at h1
    exact h1.symm
  have max63 : IntKind.i64.max = 9223372036854775807 := rfl
  -- three kinds of what is appended
  have kinds : (∃ k, dx.und = .int k ∧ (∃ j, xv = .int j (.ofNat n)) ∧ zerosV tt e n = some new) ∨
      (((∃ u, dx.und = .slice u) ∨ dx.und = .string) ∧ (∀ w, (Builtin.lenOf xv).run P w = .ok n w) ∧ ∃ news, CR E (rflat new) news ∧ (Builtin.firstCells d.size n xv).run P w = .ok (List.toArray news) w ∧ (Builtin.firstCells d.size n xv).run P w.drew = .ok (List.toArray news) w.drew) := by
    by_cases hi : isSomeB (dIntT dx.und) = true
    · rw [if_pos hi] at h
      rw [isSomeB_eq, Option.isSome_iff_exists] at hi
      obtain ⟨k, hk⟩ := hi
      rw [dIntT_some] at hk
      simp only [ob_some, Option.some.injEq, Prod.mk.injEq] at h
      obtain ⟨m, hm, z, hzz, rfl, rfl⟩ := h
      exact .inl ⟨k, hk, dNat_VR hm hx, hzz⟩
    · rw [if_neg hi, tst_some, orB_eq, Bool.or_eq_true, isSomeB_eq, Option.isSome_iff_exists, isStrT_iff] at h
      obtain ⟨hkind, h⟩ := h
      simp only [dSliceT_some] at hkind
      simp only [ob_some, Option.some.injEq, Prod.mk.injEq] at h
      obtain ⟨m, hm, cs, hcs, rfl, rfl⟩ := h
      obtain ⟨hl1, hl2⟩ := lenOfV_sound (P := P) hm hx
      obtain ⟨news, h1, h2⟩ := srcCells_sound (P := P) hS hcs hx hl2
      exact .inr ⟨hkind, hl1, news, h2, h1 w rfl, h1 w.drew rfl⟩
  have big : ∀ m : Nat, m ≤ 2097152 → ¬ ((m : Int) > IntKind.i64.max) := fun m hm => by rw [max63]; omega
  have room : ∀ c m : Nat, c ≤ m → m ≤ 2097152 → ¬ (Builtin.nextslicecap m c * inf.bytes > 2 ^ 48) := fun c m h1 h2 => by
    have h3 := nextcap_le h1
    have h4 : Builtin.nextslicecap m c * inf.bytes ≤ 4194816 * 1048576 := Nat.mul_le_mul (by omega) (by omega)
    omega
  have capge : ∀ m : Nat, m ≤ (Question.appendCap m sCap e).cut (w.tape w.drawn (Question.appendCap m sCap e)) := fun m => by simp [Question.cut]
  have nf : ∀ m : Nat, (Question.appendCap m sCap e).forced = false := fun m => rfl
  rcases kinds with ⟨k, hk, ⟨j, rfl⟩, hzz⟩ | ⟨hkind, hlen, news, hc, hf1, hf2⟩
  · rw [hk] at hX
    obtain ⟨d2, zv2, zl2, hd2, hz12, hz22, hz32, hz42⟩ := zeros_sound hT hzz
    rw [hd] at hd2; cases hd2
    have ezv : zv2 = zv := by have := hz12 w; rw [hz1] at this; cases this; rfl
    subst ezv
    have ezl : zl2 = zl := by rw [hz2] at hz22; simpa using hz22.symm
    subst ezl
    have hneg : ¬ ((n : Int) < 0) := by omega
    have hprod : ¬ ((n : Int) * (inf.bytes : Int) > 2 ^ 48) := by
      have h1 : n * inf.bytes ≤ 1048576 * 1048576 := Nat.mul_le_mul hn (by omega)
      have h2 : ((n * inf.bytes : Nat) : Int) ≤ ((1048576 * 1048576 : Nat) : Int) := Int.ofNat_le.2 h1
      rw [Int.natCast_mul] at h2
      have e : ((1048576 * 1048576 : Nat) : Int) ≤ 2 ^ 48 := by decide
      exact Int.not_lt.2 (Int.le_trans h2 e)
    have happ : ∀ w, (if n * d.size = 0 then pure #[] else do pure (Builtin.zeroCells (← zeroValue e).cells n) : Sem (Array Value)).run P w = .ok (List.replicate n zl2).flatten.toArray w := by
      intro w
      by_cases h0 : n * d.size = 0
      · rw [if_pos h0]
        have h1 : (List.replicate n zl2).flatten.length = n * d.size := by simp [hz3]
        have : (List.replicate n zl2).flatten = [] := List.eq_nil_of_length_eq_zero (by rw [h1, h0])
        rw [this]; rfl
      · rw [if_neg h0]
        simp only [Sem.run_bind, hz1, Result.andThen_ok, zeroCells_eq hz2, Sem.run_pure]
    refine ⟨(List.replicate n zl2).flatten, zl2, hz42 E, hz3, fun hle => ?_, fun hlt hs old hold => ?_⟩
    · unfold Builtin.append_
      simp only [hst, hxt, hv0, hv1, Sem.run_bind, hU, hX, hSz, Result.andThen_ok, Sem.run_pure, if_true, asInt, asIntOf, Int.ofNat_eq_natCast, wrapn, hneg, if_false, hI, hprod, Int.toNat_natCast, hle, Bool.not_true, Bool.false_eq_true, happ]
      cases base <;> simp
    · unfold Builtin.append_
      have hnle : ¬ (sLen + n ≤ sCap) := by omega
      refine ⟨_, capge (sLen + n), ?_⟩
      simp only [hst, hxt, hv0, hv1, Sem.run_bind, hU, hX, hSz, Result.andThen_ok, Sem.run_pure, if_true, asInt, asIntOf, Int.ofNat_eq_natCast, wrapn, hneg, if_false, hI, hprod, Int.toNat_natCast, hnle, Bool.not_true, Bool.false_eq_true, happ, big (sLen + n) (by omega), false_and, room sCap (sLen + n) (by omega) (by omega),
          run_choose_drew, nf, run_askRoom, hold, hz1, zeroCells_eq hz2, newRow, run_newObj_alloc]
      simp
  · refine ⟨news, zl, hc, hz3, fun hle => ?_, fun hlt hs old hold => ?_⟩
    · unfold Builtin.append_
      rcases hkind with ⟨u, hk⟩ | hk <;>
      · rw [hk] at hX
        simp only [hst, hxt, hv0, hv1, Sem.run_bind, hU, hX, hSz, Result.andThen_ok, Sem.run_pure, Bool.false_eq_true, if_false, hlen, hle, if_true, Bool.not_false, hf1]
        cases base <;> simp
    · unfold Builtin.append_
      have hnle : ¬ (sLen + n ≤ sCap) := by omega
      rcases hkind with ⟨u, hk⟩ | hk <;>
      · rw [hk] at hX
        refine ⟨_, capge (sLen + n), ?_⟩
        simp only [hst, hxt, hv0, hv1, Sem.run_bind, hU, hX, hSz, Result.andThen_ok, Sem.run_pure, Bool.false_eq_true, if_false, hlen, hnle, if_true, Bool.not_false, hI, big (sLen + n) (by omega), false_and, room sCap (sLen + n) (by omega) (by omega),
          run_choose_drew, nf, run_askRoom, hold, hf2, hz1, zeroCells_eq hz2, newRow, run_newObj_alloc]
        simp
end Go.Ev
namespace Go.Ev
theorem Sim.drew {E : Env} {S : AW} {w : World} (h : Sim E S w) : Sim E S w.drew := h.keep (fun b _ => rfl)
theorem flat_len {n : Nat} {zl : List Value} : (List.replicate n zl).flatten.length = n * zl.length := by simp
theorem appendTo_ok {C : Cx} {E : Env} {S S' : AW} {w : World} {ts : Array TypeId} {ty : TypeId} {vs : Array Value} {e st xt : TypeId} {d ds : Ty} {s x v : AV} {xv sv : Value} {n : Nat} {new z0 : RL} (hT : TTok C.P C.tt) (hS : Sim E S w)
    (hst : ts[0]? = some st) (hxt : ts[1]? = some xt) (hds : C.tt.get st = some ds) (hse : ds.und = .slice e) (hd : C.tt.get e = some d) (hz : zerosV C.tt e 0 = some z0)
    (h : appended C.tt S e d.size xt x = some (n, new)) (hx : VR E x xv) (hv1 : vs[1]? = some xv) (hv0 : vs[0]? = some sv) (hs : VR E s sv) (ha : appendTo S e d n new s = some (v, S')) :
    ∃ y w' E', (Builtin.append_ ts ty vs).run C.P w = .ok y w' ∧ VR E' v y ∧ Sim E' S' w' ∧ Grow S.next E S w E' S' w' := by
  simp only [appendTo, tst_some, ble_iff] at ha
  obtain ⟨hnl, h1d, hb, hn, ha⟩ := ha
  have hnl := eq_of_beq hnl
  rw [rlen_eq] at hnl
  replace hnl : (rflat new).length = n * d.size := hnl
  rw [iteB_eq] at ha
  by_cases h0 : n = 0
  · rw [if_pos (by rw [h0]; rfl), tst_some, orB_eq, Bool.or_eq_true, isNsl_iff, isSomeB_eq, Option.isSome_iff_exists] at ha
    obtain ⟨hk, ha⟩ := ha
    cases ha
    subst h0
    have hsv : ∃ base sLen sCap, sv = .slice base sLen sCap ∧ sLen ≤ sCap := by
      rcases hk with rfl | ⟨q, hq⟩
      · simp only [VR] at hs; exact ⟨_, _, _, hs, Nat.le_refl _⟩
      · rw [dSl_some] at hq
        subst hq
        obtain ⟨l, k, _, hs, hle⟩ := sl_val hs
        exact ⟨_, _, _, hs, hle⟩
    obtain ⟨base, sLen, sCap, rfl, hle⟩ := hsv
    obtain ⟨news, zl, hc, hzl, hfit, _⟩ := append_run (ty := ty) hT hS hst hxt hds hse hd hz h hx hn hb hv1 hv0
    have : news = [] := List.eq_nil_of_length_eq_zero (by rw [← hc.1, hnl]; simp)
    subst this
    refine ⟨_, w, E, ?_, hs, hS, Grow.refl _ _ _ _⟩
    rw [hfit hle]
    cases base <;> simp [storeCells]
  · rw [if_neg (by rw [beq_of_ne h0]; simp)] at ha
    cases hq : dSl s with
    | none =>
      simp only [hq, oel_none, tst_some, isNsl_iff] at ha
      obtain ⟨rfl, ha⟩ := ha
      simp only [VR] at hs
      subst hs
      obtain ⟨news, zl, hc, hzl, _, hgrow⟩ := append_run (ty := ty) hT hS hst hxt hds hse hd hz h hx hn hb hv1 hv0
      obtain ⟨c, hcn, hrun⟩ := hgrow (by omega) (by omega) [] rfl
      rw [Nat.zero_add] at hcn hrun
      have hlen : news.length = n * d.size := by rw [← hc.1, hnl]
      obtain ⟨q1, q2, q3⟩ := grown_sound (post := (List.replicate (c - n) zl).flatten) hS ha hc hcn (by
        rw [List.length_append, flat_len, hlen, hzl, ← Nat.add_mul]; exact Nat.mul_le_mul_right _ (by omega))
      exact ⟨_, _, _, hrun, q1, q2, q3⟩
    | some q =>
      simp only [hq, oel_some, tst_some, ble_iff] at ha
      obtain ⟨hql, ha⟩ := ha
      rw [dSl_some] at hq
      subst hq
      cases hcap : q.cap with
      | ex c =>
        rw [hcap] at ha hs
        replace ha : appEx S e d n new q c = some (v, S') := ha
        unfold appEx at ha
        simp only [VR] at hs
        obtain ⟨l, hlo, hle, rfl⟩ := hs
        obtain ⟨news, zl, hc, hzl, hfit, hgrow⟩ := append_run (ty := ty) hT hS hst hxt hds hse hd hz h hx hn hb hv1 hv0
        have hlen : news.length = n * d.size := by rw [← hc.1, hnl]
        rw [iteB_eq] at ha
        by_cases hf : q.len + n ≤ c
        · rw [if_pos (show Nat.ble (Nat.add q.len n) c = true from ble_iff.2 hf)] at ha
          simp only [ob_some, Option.some.injEq, Prod.mk.injEq] at ha
          obtain ⟨S2, hS2, rfl, rfl⟩ := ha
          obtain ⟨w', hw, hS', hG⟩ := storeCellsV_sound (P := C.P) hS hS2 hlo hc S.next
          refine ⟨_, w', E, by rw [hfit hf]; simp only [addr_add, Nat.add_assoc]; rw [show l.off + (q.off + q.len * d.size) = l.off + (q.off.add (q.len.mul d.size)) from rfl, hw]; rfl, ?_, hS', hG⟩
          simp only [VR]
          exact ⟨l, hlo, hf, rfl⟩
        · rw [if_neg (show ¬ Nat.ble (Nat.add q.len n) c = true by rw [ble_iff]; exact hf)] at ha
          simp only [ob_some] at ha
          obtain ⟨old, hold, ha⟩ := ha
          have hsx : VR E (.sl q.i q.off q.len (.ex c)) (.slice (some ⟨l.blk, l.off + q.off, none⟩) q.len c) := by
            simp only [VR]; exact ⟨l, hlo, hle, rfl⟩
          obtain ⟨olds, ho1, ho2⟩ := srcSl_sound (P := C.P) (s := ⟨q.i, q.off, q.len, .ex c⟩) hS hold hsx
          obtain ⟨c', hcn, hrun⟩ := hgrow (by omega) hql olds (ho1 w.drew rfl)
          have holen : olds.length = q.len * d.size := by
            have hol := ho2.1
            rw [← hol]
            have e : srcCells S d.size q.len (.sl q.i q.off q.len (.ex c)) = iteB (Nat.beq q.len 0) (some []) (ob (rcells S q.i) fun rs => rext rs q.off (Nat.mul q.len d.size)) := rfl
            rw [e, iteB_eq] at hold
            by_cases hz0 : q.len = 0
            · rw [if_pos (by rw [hz0]; rfl)] at hold
              cases hold
              rw [hz0]; simp [rflat_nil]
            · rw [if_neg (by rw [beq_of_ne hz0]; simp), ob_some] at hold
              obtain ⟨rs, _, hr⟩ := hold
              exact (rext_some hr).2
          have hcc : CR E (rflat (lapp old new)) (olds ++ news) := by rw [rflat_app]; exact ho2.append hc
          obtain ⟨q1, q2, q3⟩ := grown_sound (post := (List.replicate (c' - (q.len + n)) zl).flatten) hS ha hcc hcn (by
            rw [List.length_append, List.length_append, flat_len, hlen, holen, hzl, ← Nat.add_mul, ← Nat.add_mul]; exact Nat.mul_le_mul_right _ (by omega))
          refine ⟨_, _, _, ?_, q1, q2, q3⟩
          rw [List.append_assoc]
          exact hrun
      | rest k =>
        rw [hcap] at ha hs
        replace ha : appRest S e d n new q k = some (v, S') := ha
        simp only [appRest, ob_some, tst_some, dRow_some] at ha
        obtain ⟨o, hob, r, rfl, z, hz', hzd, hk0, hre, old, hold, ha⟩ := ha
        have hzd := eq_of_beq hzd
        have hk0 := eq_of_beq hk0
        have hre := eq_of_beq hre
        have hoff0 : q.off = 0 := by have : q.off + k = 0 := hk0; omega
        have hk : k = 0 := by have : q.off + k = 0 := hk0; omega
        subst hk
        simp only [VR] at hs
        obtain ⟨l, hlo, hle, rfl⟩ := hs
        obtain ⟨l', hl', hO⟩ := hS.obj _ _ hob
        rw [hlo] at hl'; cases hl'
        have hloff := off0 hO
        obtain ⟨pre, mid, post, fr, hblk, hpre, hcm, hfr, hop⟩ := hO
        rw [hz'] at hop
        obtain ⟨rfl, hop⟩ := hop
        obtain ⟨e1, e2⟩ := rext_some hold
        rw [hoff0, List.drop_zero] at e1
        have hoc := hcm.take (q.len * d.size)
        rw [show (rflat r.rs).take (q.len * d.size) = rflat old from e1.symm] at hoc
        have hmid : q.len * d.size ≤ mid.length := by
          have h1 := hoc.1
          rw [show (rflat old).length = q.len * d.size from e2, List.length_take] at h1
          omega
        obtain ⟨news, zl, hc, hzl, hfit, hgrow⟩ := append_run (ty := ty) hT hS hst hxt hds hse hd hz h hx hn hb hv1 hv0
        have hlen : news.length = n * d.size := by rw [← hc.1, hnl]
        have holen : (mid.take (q.len * d.size)).length = q.len * d.size := by rw [List.length_take]; omega
        have hcc : CR E (rflat (lapp old new)) (mid.take (q.len * d.size) ++ news) := by rw [rflat_app]; exact hoc.append hc
        rw [hloff, hoff0, Nat.sub_zero] at hfit hgrow
        by_cases hf : q.len + n ≤ l.cap
        · -- in place
          simp only [grown, Option.some.injEq, Prod.mk.injEq] at ha
          obtain ⟨rfl, rfl⟩ := ha
          have hroom : (q.len + n) * d.size ≤ (mid ++ post).length := by
            rw [← hzd]; exact Nat.le_trans (Nat.mul_le_mul_right _ hf) (hzd ▸ hop)
          rw [Nat.add_mul] at hroom
          have hcv : ∀ v ∈ news, cellVal v := by
            intro v hv
            obtain ⟨j, hj, rfl⟩ := List.getElem_of_mem hv
            have hj' : j < (rflat new).length := by rw [hc.1]; exact hj
            exact (hc.2 j _ news[j] (List.getElem?_eq_getElem hj') (by simp [hj])).2
          have hst' := run_storeRow (P := C.P) news (q.len * d.size) 0 ([] ++ mid ++ post) w hblk (by rcases hfr with h | h; exact .inl (Nat.le_of_eq h); exact .inr h) (by simp only [List.nil_append]; omega) hcv
          rw [Nat.add_zero, List.nil_append] at hst'
          have hsplit : (mid ++ post).take (q.len * d.size) = mid.take (q.len * d.size) := by rw [List.take_append_of_le_length hmid]
          rw [hsplit] at hst'
          have hlt : l.blk < w.heap.size := (Array.getElem?_eq_some_iff.1 hblk).1
          have hE := hS.new S.next (Nat.le_refl _)
          obtain ⟨g1, g2⟩ := Sim.take (l' := ⟨l.blk, 0, l.cap⟩) (o' := .cells e (lapp old new) (some d.size)) (ob := .cells (mid.take (q.len * d.size) ++ news ++ (mid ++ post).drop (q.len * d.size + news.length)).toArray r.e fr) hS hob trivial hlo rfl
            ⟨[], mid.take (q.len * d.size) ++ news, (mid ++ post).drop (q.len * d.size + news.length), fr, by rw [setBlk_same hlt, hre]; rfl, rfl, hcc.mono (Env.put_le hE), by
              rcases hfr with h | h
              · exact .inl h
              · right
                simp only [List.nil_append, List.length_append, List.length_drop, holen] at h hroom ⊢
                omega, rfl, by
              rw [hzd] at hop
              simp only [List.length_append, List.length_drop, holen] at hop hroom ⊢
              omega⟩
          refine ⟨.slice (some ⟨l.blk, 0, none⟩) (q.len + n) l.cap, _, _, ?_, ?_, g1, g2⟩
          · rw [hfit hf]
            simp only [Nat.add_zero, addr_add, Nat.zero_add, hst', Result.andThen_ok]
          · simp only [VR]
            exact ⟨_, Env.put_same E S.next _, by simpa using hf, by simp⟩
        · have hold' : (Builtin.firstCells d.size q.len (.slice (some ⟨l.blk, 0 + 0, none⟩) q.len l.cap)).run C.P w.drew = .ok (mid.take (q.len * d.size)).toArray w.drew := by
            have hb' : w.drew.heap[l.blk]? = some (.cells ([] ++ mid ++ post).toArray r.e fr) := hblk
            have := run_loadMid (P := C.P) hb' 0 (q.len * d.size) (by rw [List.drop_zero]; exact holen)
            rw [List.drop_zero] at this
            exact this
          obtain ⟨c', hcn, hrun⟩ := hgrow (by omega) hql _ hold'
          obtain ⟨k1, k2⟩ := hS.kill hlo S.next
          have k1' : Sim E (S.put q.i .dead) w := k1
          obtain ⟨q1, q2, q3⟩ := grown_sound (post := (List.replicate (c' - (q.len + n)) zl).flatten) k1' ha hcc hcn (by
            rw [List.length_append, List.length_append, flat_len, hlen, holen, hzl, ← Nat.add_mul, ← Nat.add_mul]; exact Nat.mul_le_mul_right _ (by omega))
          refine ⟨_, _, _, ?_, q1, q2, k2.trans q3⟩
          rw [List.append_assoc]
          exact hrun
theorem bAppend_ok : BHok bAppend .append := by
  intro C E S S' w ts ty cs args vs v hT hS hl h
  simp only [bAppend, appendV, ob_some, sliceElem_some] at h
  obtain ⟨st, hst, xt, hxt, s, hs, x, hx, e, ⟨ds, hds, hse⟩, d, hd, z0, hz, p, hp, ha⟩ := h
  obtain ⟨sv, hs1, hs2⟩ := hl.arg hs
  obtain ⟨xv, hx1, hx2⟩ := hl.arg hx
  obtain ⟨y, w', E', h1, h2, h3, h4⟩ := appendTo_ok (ty := ty) hT hS (lget_arr hst) (lget_arr hxt) hds hse hd hz hp hx2 hx1 hs1 hs2 ha
  exact ⟨y, w', E', run_v' h1, h2, h3, h4⟩
theorem isStrTy_ok {P : Program} {tt : T Ty} (hT : TTok P tt) {t : TypeId} (h : isStrTy tt t = true) : P.underlying t = some .string := by
  unfold isStrTy at h
  cases hd : tt.get t with
  | none => simp [hd] at h
  | some d =>
    rw [hd, oel_some, isStrT_iff] at h
    rw [hT.und hd, h]
theorem aConv_ok (s d : TypeId) (x : Operand) : AHok (aConv s d x) (.convert s d x) := by
  intro C R rnd E S S' w tm act o v ho hA h
  simp only [aConv, ob_some] at h
  obtain ⟨a, ha, h⟩ := h
  have hx := hA.ev ha
  suffices hh : ∃ y w' E', (convert s d (act.eval x)).run C.P w = .ok y w' ∧ VR E' v y ∧ Sim E' S' w' ∧ Grow S.next E S w E' S' w' by
    obtain ⟨y, w', E', h1, h2⟩ := hh
    exact ⟨y, w', E', .inl (by simp only [execOp, ho]; exact run_v' h1), h2⟩
  cases hs : sliceToSliceV C.tt S s d a with
  | some u =>
    simp only [hs, oel_some, Option.some.injEq, Prod.mk.injEq] at h
    obtain ⟨rfl, rfl⟩ := h
    simp only [sliceToSliceV, tst_some, ob_some, sliceElem_some, dRow_some, Option.some.injEq] at hs
    obtain ⟨hsd, e, ⟨dd, hdd, hde⟩, hu8, q, hq, o', hob, r, rfl, rfl⟩ := hs
    have hsd := eq_of_beq hsd
    subst hsd
    rw [dSl_some] at hq
    subst hq
    obtain ⟨l, k, hlo, hv, _⟩ := sl_val hx
    obtain ⟨l', hl', hO⟩ := hA.sim.obj _ _ hob
    rw [hlo] at hl'; cases hl'
    obtain ⟨pre, mid, post, fr, hblk, hpre, hcm, hfr, hop⟩ := hO
    have hlt : l.blk < w.heap.size := (Array.getElem?_eq_some_iff.1 hblk).1
    have hU := hA.ty.und hdd
    rw [hde] at hU
    have hU8 := isU8_ok hA.ty hu8
    have hsh : w.shape? l.blk = some (r.e, (pre ++ mid ++ post).length) := by simp [World.shape?, hblk]
    have hsame : (S.put q.i (.cells r.e r.rs r.op)).heap.get = S.heap.get := by
      funext j
      simp only [AW.put, T.get_set]
      split
      · rename_i hj; rw [hj]; exact hob.symm
      · rfl
    obtain ⟨g1, g2⟩ := hA.sim.mod (ob := .cells (pre ++ mid ++ post).toArray r.e (if fr.1 == fr.2 then ((pre ++ mid ++ post).length, (pre ++ mid ++ post).length + 1) else (min fr.1 (pre ++ mid ++ post).length, max fr.2 ((pre ++ mid ++ post).length + 1)))) (o' := .cells r.e r.rs r.op) hob trivial hlo
      ⟨pre, mid, post, _, setBlk_same hlt, hpre, hcm, by
        right
        by_cases hf : fr.1 = fr.2
        · simp [hf]
        · rw [if_neg (by simpa using hf)]
          rcases hfr with h | h
          · exact absurd h.symm hf
          · simp only; omega, hop⟩ S.next
    refine ⟨act.eval x, _, E, ?_, hx, g1.weaken (fun i o hi => by rw [hsame]; exact hi) (Nat.le_refl _), ?_⟩
    · rw [hv]
      unfold convert
      simp only [Sem.run_bind, run_underlying hU, run_underlying hU8, Result.andThen_ok, beq_self_eq_true, markStringish, run_shape, hsh, run_freeze, Sem.run_pure]
      rw [freeze_eq hblk (by omega)]
    · exact { g2 with own := fun i o l hi hl he => .inr ⟨i, o, l, hi, hl, he, rfl, fun x => x⟩ }
  | none =>
    simp only [hs, oel_none, stringToBytesV, ob_some, tst_some, sliceElem_some, Option.some.injEq, Prod.mk.injEq] at h
    obtain ⟨t, ht, hst, e, ⟨dd, hdd, hde⟩, hu8, rfl, rfl⟩ := h
    rw [dStr_some] at ht
    subst ht
    simp only [VR] at hx
    obtain ⟨hv, h256⟩ := hx
    have hU := hA.ty.und hdd
    rw [hde] at hU
    have hU8 := isU8_ok hA.ty hu8
    have hUs := isStrTy_ok hA.ty hst
    have hsz : (ByteArray.mk (t.map UInt8.ofNat).toArray).size = t.length := by simp [ByteArray.size]
    have capge : t.length ≤ (Question.appendCap t.length 0 e).cut (w.tape w.drawn (Question.appendCap t.length 0 e)) := by simp [Question.cut]
    generalize hcap : (Question.appendCap t.length 0 e).cut (w.tape w.drawn (Question.appendCap t.length 0 e)) = c at capge
    have hE := hA.sim.new S.next (Nat.le_refl _)
    have hlen : ((t.map fun b => Value.int .u8 (.ofNat b)) ++ List.replicate (c - t.length) (Value.int .u8 0)).length = c := by simp; omega
    have hrow : (w.drew.alloc (.cells ((t.map fun b => Value.int .u8 (.ofNat b)) ++ List.replicate (c - t.length) (Value.int .u8 0)).toArray e)).heap[w.heap.size]? = some (.cells ((t.map fun b => Value.int .u8 (.ofNat b)) ++ List.replicate (c - t.length) (Value.int .u8 0)).toArray e (0, 0)) := alloc_get w.drew _
    have hlt : w.heap.size < (w.drew.alloc (.cells ((t.map fun b => Value.int .u8 (.ofNat b)) ++ List.replicate (c - t.length) (Value.int .u8 0)).toArray e)).heap.size := by rw [alloc_size]; exact Nat.lt_succ_self _
    have hF : Fresh E w S.next (.cells e (byteCells t) (some 1)) ⟨w.heap.size, 0, c⟩ ((w.drew.alloc (.cells ((t.map fun b => Value.int .u8 (.ofNat b)) ++ List.replicate (c - t.length) (Value.int .u8 0)).toArray e)).setBlk w.heap.size (.cells ((t.map fun b => Value.int .u8 (.ofNat b)) ++ List.replicate (c - t.length) (Value.int .u8 0)).toArray e (c, c + 1))) := by
      refine ⟨rfl, rfl, rfl, ?_, fun b hb => ?_, ?_, fun _ => Nat.le_refl _⟩
      · rw [setBlk_size]; exact Nat.le_of_lt hlt
      · rw [setBlk_other (Nat.ne_of_lt hb)]; exact alloc_old w.drew _ hb
      · refine ⟨[], t.map fun b => Value.int .u8 (.ofNat b), List.replicate (c - t.length) (Value.int .u8 0), (c, c + 1), by rw [setBlk_same hlt]; rfl, rfl, (byteCells_CR E h256).mono (Env.put_le hE), .inr ?_, rfl, ?_⟩
        · rw [List.nil_append, hlen]; exact Nat.le_refl _
        · rw [hlen]; simp
    obtain ⟨q1, q2⟩ := hF.sim hA.sim hE (n := S.next + 1) (Nat.le_succ _) (Nat.lt_succ_self _) (k := S.next) (Nat.le_refl _)
    refine ⟨.slice (some ⟨w.heap.size, 0, none⟩) t.length c, _, _, ?_, ?_, q1, q2⟩
    · rw [hv]
      have helems : ((ByteArray.mk (t.map UInt8.ofNat).toArray).data.map fun b => Value.int .u8 b.toNat) ++ Array.replicate (c - t.length) (Value.int .u8 0) = ((t.map fun b => Value.int .u8 (.ofNat b)) ++ List.replicate (c - t.length) (Value.int .u8 0)).toArray := by
        rw [bytes_data h256]
        apply Array.toList_inj.1
        simp
      have hsh : (w.drew.alloc (.cells ((t.map fun b => Value.int .u8 (.ofNat b)) ++ List.replicate (c - t.length) (Value.int .u8 0)).toArray e)).shape? w.heap.size = some (e, c) := by
        unfold World.shape?
        rw [hrow]
        simp only [List.size_toArray, hlen]
      unfold convert
      simp only [bytesV, Sem.run_bind, run_underlying hU, run_underlying hU8, run_underlying hUs, Result.andThen_ok]
      unfold Conv.stringToBytes
      simp only [Sem.run_bind, hsz, run_choose_drew, show (Question.appendCap t.length 0 e).forced = false from rfl, Bool.false_eq_true, if_false, hcap, Result.andThen_ok, newRow, helems, run_newObj_alloc, Sem.run_pure, markStringish, run_shape]
      rw [show w.drew.heap.size = w.heap.size from rfl]
      simp only [hsh, Sem.run_bind, run_freeze, Result.andThen_ok, Sem.run_pure]
      rw [freeze_eq hrow (by omega)]
      rfl
    · simp only [VR]
      exact ⟨_, Env.put_same E S.next _, by rw [llen_eq]; simpa using capge, by simp [llen_eq]⟩
end Go.Ev
