/- A flush of the device: its contract. -/
import Derived.Test.YtdkkdfplkmfheaaGreatDoorSa
import Derived.Test.YtdkkdfplkmfheaaGreatDoorEf
set_option linter.unusedSimpArgs false
set_option linter.unusedVariables false
namespace Go.Ev
open Go.Proofs
theorem sn0_tts : [59, 60, 3, 4, 97, 62, 24].map (shT sn0.tt) = [some (.slice 97, 1, false), some (.map 3 59, 1, false), some (.int .i64, 1, false), some (.other, 1, false), some (.arr 512 5, 512, true), some (.struct [(59, 0), (60, 1), (3, 2), (4, 3), (3, 4)], 5, true), some (.ptr 62, 1, false)] := by kernel_rfl
theorem sn0_t59 : shT sn0.tt 59 = some (.slice 97, 1, false) := Option.some.inj (show some (shT sn0.tt 59) = some (some (.slice 97, 1, false)) from congrArg (fun l => l[0]?) sn0_tts)
theorem sn0_t60 : shT sn0.tt 60 = some (.map 3 59, 1, false) := Option.some.inj (show some (shT sn0.tt 60) = some (some (.map 3 59, 1, false)) from congrArg (fun l => l[1]?) sn0_tts)
theorem sn0_t3 : shT sn0.tt 3 = some (.int .i64, 1, false) := Option.some.inj (show some (shT sn0.tt 3) = some (some (.int .i64, 1, false)) from congrArg (fun l => l[2]?) sn0_tts)
theorem sn0_t4 : shT sn0.tt 4 = some (.other, 1, false) := Option.some.inj (show some (shT sn0.tt 4) = some (some (.other, 1, false)) from congrArg (fun l => l[3]?) sn0_tts)
theorem sn0_t97 : shT sn0.tt 97 = some (.arr 512 5, 512, true) := Option.some.inj (show some (shT sn0.tt 97) = some (some (.arr 512 5, 512, true)) from congrArg (fun l => l[4]?) sn0_tts)
theorem sn0_t62 : shT sn0.tt 62 = some (.struct [(59, 0), (60, 1), (3, 2), (4, 3), (3, 4)], 5, true) := Option.some.inj (show some (shT sn0.tt 62) = some (some (.struct [(59, 0), (60, 1), (3, 2), (4, 3), (3, 4)], 5, true)) from congrArg (fun l => l[5]?) sn0_tts)
theorem sn0_t24 : shT sn0.tt 24 = some (.ptr 62, 1, false) := Option.some.inj (show some (shT sn0.tt 24) = some (some (.ptr 62, 1, false)) from congrArg (fun l => l[6]?) sn0_tts)
theorem sn0_ld_59 (S : AW) (i off : Nat) : loadV sn0.tt S 59 (.ptr i off) = ob (rcells S i) fun rs => rget rs off := fLd sn0_t59
theorem sn0_ld_60 (S : AW) (i off : Nat) : loadV sn0.tt S 60 (.ptr i off) = ob (rcells S i) fun rs => rget rs off := fLd sn0_t60
theorem sn0_ld_3 (S : AW) (i off : Nat) : loadV sn0.tt S 3 (.ptr i off) = ob (rcells S i) fun rs => rget rs off := fLd sn0_t3
theorem sn0_ld_4 (S : AW) (i off : Nat) : loadV sn0.tt S 4 (.ptr i off) = ob (rcells S i) fun rs => rget rs off := fLd sn0_t4
theorem sn0_ld_97 (S : AW) (i off : Nat) : loadV sn0.tt S 97 (.ptr i off) = ob (rcells S i) fun rs => ob (rext rs off 512) fun r => some (.agg r) := fLdA sn0_t97
theorem sn0_st_3 (S : AW) (i off : Nat) (v : AV) : storeV sn0.tt S 3 (.ptr i off) v = ob (cellsOfV v) fun cs => tst (Nat.beq (rlen cs) 1) (storeCellsV S i off cs) := fSt sn0_t3 v
theorem sn0_st_4 (S : AW) (i off : Nat) (v : AV) : storeV sn0.tt S 4 (.ptr i off) v = ob (cellsOfV v) fun cs => tst (Nat.beq (rlen cs) 1) (storeCellsV S i off cs) := fSt sn0_t4 v
theorem sn0_st_97 (S : AW) (i off : Nat) (v : AV) : storeV sn0.tt S 97 (.ptr i off) v = ob (cellsOfV v) fun cs => tst (Nat.beq (rlen cs) 512) (storeCellsV S i off cs) := fSt sn0_t97 v
theorem sn0_fa_62_0 (i off : Nat) : fieldAddrV sn0.tt 62 (.ptr i off) 0 = some (.ptr i (Nat.add off 0)) := fFa sn0_t62 rfl sn0_t59 rfl
theorem sn0_fa_62_1 (i off : Nat) : fieldAddrV sn0.tt 62 (.ptr i off) 1 = some (.ptr i (Nat.add off 1)) := fFa sn0_t62 rfl sn0_t60 rfl
theorem sn0_fa_62_2 (i off : Nat) : fieldAddrV sn0.tt 62 (.ptr i off) 2 = some (.ptr i (Nat.add off 2)) := fFa sn0_t62 rfl sn0_t3 rfl
theorem sn0_fa_62_3 (i off : Nat) : fieldAddrV sn0.tt 62 (.ptr i off) 3 = some (.ptr i (Nat.add off 3)) := fFa sn0_t62 rfl sn0_t4 rfl
theorem sn0_fa_62_4 (i off : Nat) : fieldAddrV sn0.tt 62 (.ptr i off) 4 = some (.ptr i (Nat.add off 4)) := fFa sn0_t62 rfl sn0_t3 rfl
theorem sn0_ia_59 (i off len : Nat) (c : Cap) (k : IntKind) (m : Nat) : indexAddrV sn0.tt 59 (.sl i off len c) (.int k (.ofNat m)) = tst (Nat.blt m len) (some (.ptr i (Nat.add off (Nat.mul m 512)))) := fIa sn0_t59 sn0_t97
theorem sn0_len_59 (S : AW) (i o n : Nat) (c : Cap) : lenV sn0.tt S 59 (.sl i o n c) = some n := fLen sn0_t59
theorem sn0_eqp_24 (cx : Bool) (i o : Nat) : binV sn0 .eql 24 cx (.ptr i o) .nptr = some (.bool false) := fEqP sn0_t24
theorem sn0_nep_24 (cx : Bool) (i o : Nat) : binV sn0 .neq 24 cx (.ptr i o) .nptr = some (.bool true) := fNeP sn0_t24
end Go.Ev
namespace Go.Ev
open Go.Proofs
theorem fn168 : sn0.fns.get 168 = some Tryz.f168 := by kernel_rfl
/-- A device that is up and has no fuse. -/
structure DevAt (S : AW) (i off : Nat) (e : TypeId) (rs : RL) (op : Option Nat) (sb so n : Nat) (cap : Cap) (m : Nat) (ops : Int) : Prop where
  at_ : S.heap.get i = some (.cells e rs op)
  safe : rget rs off = some (.sl sb so n cap)
  pend : rget rs (off + 1) = some (.map m)
  fuse : rget rs (off + 2) = some (.int .i64 (.negSucc 0))
  down : rget rs (off + 3) = some (.bool false)
  ops : rget rs (off + 4) = some (.int .i64 ops)
theorem operate_ret {S : AW} {i off : Nat} {e : TypeId} {rs ds : RL} {op : Option Nat} {sb so n : Nat} {cap : Cap} {m : Nat} {ops : Int} (h : DevAt S i off e rs op sb so n cap m ops) (hn : 0 < n) (hd : rput rs (off + 4) [(1, .int .i64 (wrapI .i64 (iadd ops (.ofNat 1))))] = some ds) :
    Ret sn0 168 [.ptr i off, .int .i64 (.ofNat 0), .int .i64 (.ofNat 0)] S (fun v s => v = .int .i64 (.ofNat 0) ∧ s = { heap := S.heap.set i (.cells e ds op), next := S.next }) := by
  obtain ⟨h1, h2, h3, h4, h5, h6⟩ := h
  refine ret_of_runs sn0_ok fn168 (c := _) rfl ?_
  have hsz : frameSz Tryz.f168 [AV.ptr i off, .int .i64 (.ofNat 0), .int .i64 (.ofNat 0)] = 60 := by kernel_rfl
  rw [hsz]
  generalize hT : argTm [AV.ptr i off, .int .i64 (.ofNat 0), .int .i64 (.ofNat 0)] = T0
  have g0 : T0.get 0 = some (.ptr i off) := by rw [← hT]; kernel_rfl
  have g1 : T0.get 1 = some (.int .i64 (.ofNat 0)) := by rw [← hT]; kernel_rfl
  have g2 : T0.get 2 = some (.int .i64 (.ofNat 0)) := by rw [← hT]; kernel_rfl
  clear hT
  have e1 : Nat.blt 0 n = true := blt_iff.2 hn
  have e2 : Nat.blt 0 0 = false := rfl
  refine runs_rs sn0_mixed ?_
  simp (config := { maxSteps := 1000000 }) only [codeK_region, codeK_seq, codeK_cond, codeK_block, codeK_skip, codeK_exit, codeK_ret, rsThen_normal, rsThen_exit, rsThen_ret, codeK_block_normal, orNo_some_eq, stepOp_eq, wantedV_none, opH_move, opH_assign, opH_alloc, opH_box, opH_load, opH_store, opH_nilCheck, opH_binOp, opH_unOp, opH_convert, opH_fieldAddr, opH_indexAddr, opH_extract, opH_range, opH_entry, stepH_val, stepH_rdr, stepH_new, stepH_act, putT_if, putT_none, doneK_eq, aev_tmp, aev_int, aev_bool, aev_nilp, aev_nils, ob_some_eq, iteB_t, iteB_f, tst_t, stepsK_cons, stepsK_nil, T.get_set, reduceIte, Nat.reduceLT, Nat.reduceEqDiff, Nat.succ_eq_add_one, reduceCtorEq, true_and, and_true, and_self, Nat.reduceAdd, vMove, vLoad, vBin, vUn, vConv, vFieldAddr, vIndexAddr, vNil, vExtract, aStore, rsOk_mk, aThen_normal, aThen_exit, aThen_ret, loopQ_normal, loopQ_exit, stepH_va_eq, stepH_vn_eq, oel_some_eq, opH_build, opH_makeMap, opH_mapUpdate, aMapUpdate, vBuild, partsV, opH_pick, vPick, wantedV_some, guardV, beqB_t, beqB_f, notB_t, notB_f, dTup_bool, rlen_one, beq_11, ob_none_eq, oel_none_eq, ieq_nat, ieq_neg_nat, ilt_nat_neg, ilt_neg_nat, aRange, aBuiltin, bClear, vEntry, dBool_bool, dInt_int, dNat_nat, dPtr_ptr, dMap_map, dSl_sl, dTup_tup, dAgg_agg, dStr_str, lget_zero, lget_one, lget_two, notNil_ptr, lmapO_nil', lmapO_cons', vLen, opH_call, hCallee_builtin, hBuiltin_len, hBuiltin_append, hBuiltin_clear, hBuiltin_copy, hBuiltin_delete, int_lit, unitA_eq, storeCells_new, T.set_set, rowOf_cells, rowOf_ro, cellsOfV_agg, cellsOfV_int, cellsOfV_bool, cellsOfV_map, cellsOfV_sl, cellsOfV_ptr, binV_add, binV_sub, binV_mul, binV_lss, binV_leq, binV_gtr, binV_geq, binV_eql, binV_neq, binV_xor, binV_and, binV_or, wrapI_ofNat, iadd_nat, ilt_nat, isub_nat, Nat.add_eq, Nat.sub_eq, Nat.mul_eq, Nat.mul_one, Nat.zero_add, Nat.add_zero, g0, g1, g2, rcells, h1, h2, h3, h4, h5, h6, e1, e2, sn0_ld_59, sn0_ld_60, sn0_ld_3, sn0_ld_4, sn0_ld_97, sn0_st_3, sn0_st_4, sn0_st_97, sn0_fa_62_0, sn0_fa_62_1, sn0_fa_62_2, sn0_fa_62_3, sn0_fa_62_4, sn0_ia_59, sn0_len_59, sn0_eqp_24, sn0_nep_24, storeCells_at h1, hd, beq_self]
  exact ⟨rfl, .int .i64 (.ofNat 0), resultsV_one (r := 6) rfl (by simp only [codeK_region, codeK_seq, codeK_cond, codeK_block, codeK_skip, codeK_exit, codeK_ret, rsThen_normal, rsThen_exit, rsThen_ret, codeK_block_normal, orNo_some_eq, stepOp_eq, wantedV_none, opH_move, opH_assign, opH_alloc, opH_box, opH_load, opH_store, opH_nilCheck, opH_binOp, opH_unOp, opH_convert, opH_fieldAddr, opH_indexAddr, opH_extract, opH_range, opH_entry, stepH_val, stepH_rdr, stepH_new, stepH_act, putT_if, putT_none, doneK_eq, aev_tmp, aev_int, aev_bool, aev_nilp, aev_nils, ob_some_eq, iteB_t, iteB_f, tst_t, stepsK_cons, stepsK_nil, T.get_set, reduceIte, Nat.reduceLT, Nat.reduceEqDiff, Nat.succ_eq_add_one, reduceCtorEq, true_and, and_true, and_self, Nat.reduceAdd, vMove, vLoad, vBin, vUn, vConv, vFieldAddr, vIndexAddr, vNil, vExtract, aStore, rsOk_mk, aThen_normal, aThen_exit, aThen_ret, loopQ_normal, loopQ_exit, stepH_va_eq, stepH_vn_eq, oel_some_eq, opH_build, opH_makeMap, opH_mapUpdate, aMapUpdate, vBuild, partsV, opH_pick, vPick, wantedV_some, guardV, beqB_t, beqB_f, notB_t, notB_f, dTup_bool, rlen_one, beq_11, ob_none_eq, oel_none_eq, ieq_nat, ieq_neg_nat, ilt_nat_neg, ilt_neg_nat, aRange, aBuiltin, bClear, vEntry, dBool_bool, dInt_int, dNat_nat, dPtr_ptr, dMap_map, dSl_sl, dTup_tup, dAgg_agg, dStr_str, lget_zero, lget_one, lget_two, notNil_ptr, lmapO_nil', lmapO_cons', vLen, opH_call, hCallee_builtin, hBuiltin_len, hBuiltin_append, hBuiltin_clear, hBuiltin_copy, hBuiltin_delete, int_lit, unitA_eq, storeCells_new, T.set_set, rowOf_cells, rowOf_ro, cellsOfV_agg, cellsOfV_int, cellsOfV_bool, cellsOfV_map, cellsOfV_sl, cellsOfV_ptr, binV_add, binV_sub, binV_mul, binV_lss, binV_leq, binV_gtr, binV_geq, binV_eql, binV_neq, binV_xor, binV_and, binV_or, wrapI_ofNat, iadd_nat, ilt_nat, isub_nat, Nat.add_eq, Nat.sub_eq, Nat.mul_eq, Nat.mul_one, Nat.zero_add, Nat.add_zero]), rfl⟩
theorem fn142 : sn0.fns.get 142 = some Tryz.f142 := by kernel_rfl
/-- One block's last write. -/
structure EntAt (S : AW) (sb i clock n : Nat) (e : Ent) (k : Nat) (cs : RL) : Prop where
  key : e.key = .int .i64 (.ofNat k)
  lt : k < n
  val : ∃ vb vo vl c vrs, e.val = .sl vb vo (vl + 1) c ∧ vb ≠ sb ∧ vb ≠ i ∧ (vl + 1 ≤ 9223372036854775807) ∧ rcells S vb = some vrs ∧ rext vrs (vo + vl * 512) 512 = some cs
  born : e.born < clock
/-- What is laid of the writes of vis. -/
def LaidIn (B so : Nat) (kc : Ent → Nat × List AV) (L0 : List AV) (vis : List Ent) (L : List AV) : Prop :=
  L.length = L0.length ∧ (∀ j, (∀ e ∈ vis, ¬ (so + (kc e).1 * B ≤ j ∧ j < so + (kc e).1 * B + B)) → L[j]? = L0[j]?) ∧ ∀ e ∈ vis, ∀ t, t < B → L[so + (kc e).1 * B + t]? = (kc e).2[t]?
theorem laidIn_step {B so : Nat} {kc : Ent → Nat × List AV} {L0 L L' : List AV} {vis : List Ent} {e : Ent} (h : LaidIn B so kc L0 vis L) (hlen : (kc e).2.length = B) (hd : ∀ e' ∈ vis, (kc e').1 ≠ (kc e).1)
    (hL : L' = L.take (so + (kc e).1 * B) ++ ((kc e).2 ++ L.drop (so + (kc e).1 * B + B))) (hr : so + (kc e).1 * B + B ≤ L.length) : LaidIn B so kc L0 (e :: vis) L' := by
  obtain ⟨h1, h2, h3⟩ := h
  have hlt : (L.take (so + (kc e).1 * B)).length = so + (kc e).1 * B := by rw [List.length_take]; omega
  have low : ∀ j, j < so + (kc e).1 * B → L'[j]? = L[j]? := fun j hj => by
    rw [hL, List.getElem?_append_left (by rw [hlt]; exact hj), List.getElem?_take, if_pos hj]
  have mid : ∀ t, t < B → L'[so + (kc e).1 * B + t]? = (kc e).2[t]? := fun t ht => by
    rw [hL, List.getElem?_append_right (by rw [hlt]; omega), hlt, Nat.add_sub_cancel_left, List.getElem?_append_left (by rw [hlen]; exact ht)]
  have high : ∀ j, so + (kc e).1 * B + B ≤ j → L'[j]? = L[j]? := fun j hj => by
    rw [hL, List.getElem?_append_right (by rw [hlt]; omega), hlt, List.getElem?_append_right (by rw [hlen]; omega), hlen, List.getElem?_drop]
    congr 1; omega
  refine ⟨?_, fun j hj => ?_, fun e' he' t ht => ?_⟩
  · rw [hL, List.length_append, List.length_append, hlt, hlen, List.length_drop]; omega
  · have hne := hj e (by simp)
    have hj' := h2 j fun e' he' => hj e' (by simp [he'])
    rcases Nat.lt_or_ge j (so + (kc e).1 * B) with h | h
    · rw [low j h, hj']
    · rw [high j (by omega), hj']
  · rcases List.mem_cons.1 he' with rfl | he'
    · exact mid t ht
    · have := hd e' he'
      rw [← h3 e' he' t ht]
      rcases Nat.lt_or_gt_of_ne this with h | h
      · have q := Nat.mul_le_mul_right B (show (kc e').1 + 1 ≤ (kc e).1 from h)
        rw [Nat.add_mul, Nat.one_mul] at q
        exact low _ (by omega)
      · have q := Nat.mul_le_mul_right B (show (kc e).1 + 1 ≤ (kc e').1 from h)
        rw [Nat.add_mul, Nat.one_mul] at q
        exact high _ (by omega)
theorem laidIn_eq {B so : Nat} {kc : Ent → Nat × List AV} {L0 L L' : List AV} {vis vis' : List Ent} (h : LaidIn B so kc L0 vis L) (h' : LaidIn B so kc L0 vis' L') (hm : ∀ e, e ∈ vis ↔ e ∈ vis') : L = L' := by
  apply List.ext_getElem?
  intro j
  by_cases hj : ∃ e ∈ vis, so + (kc e).1 * B ≤ j ∧ j < so + (kc e).1 * B + B
  · obtain ⟨e, he, h1, h2⟩ := hj
    have e1 := h.2.2 e he (j - (so + (kc e).1 * B)) (by omega)
    have e2 := h'.2.2 e ((hm e).1 he) (j - (so + (kc e).1 * B)) (by omega)
    have ej : so + (kc e).1 * B + (j - (so + (kc e).1 * B)) = j := by omega
    rw [ej] at e1 e2
    rw [e1, e2]
  · have hj' : ∀ e ∈ vis, ¬ (so + (kc e).1 * B ≤ j ∧ j < so + (kc e).1 * B + B) := fun e he h => hj ⟨e, he, h⟩
    rw [h.2.1 j hj', h'.2.1 j fun e he => hj' e ((hm e).2 he)]
theorem rput_mk {rs new : RL} {off : Nat} (h : off + (rflat new).length ≤ (rflat rs).length) : ∃ r, rput rs off new = some r ∧ rflat r = (rflat rs).take off ++ (rflat new ++ (rflat rs).drop (off + (rflat new).length)) := by
  have h1 : Nat.beq (rlen (rtake rs off)) off = true := by rw [rlen_eq, rtake_eq, List.length_take, Nat.min_eq_left (by omega)]; exact beq_self _
  have h2 : Nat.ble (rlen new) (rlen (rdrop rs off)) = true := by rw [rlen_eq, rlen_eq, rdrop_eq, List.length_drop]; exact ble_iff.2 (by omega)
  have h3 : rput rs off new = some (lapp (rtake rs off) (lapp new (rdrop (rdrop rs off) (rlen new)))) := by
    unfold rput rput2
    rw [h1, tst_t, h2, tst_t]
  refine ⟨_, h3, ?_⟩
  rw [rflat_app, rflat_app, rtake_eq, rdrop_eq, rdrop_eq, List.drop_drop, rlen_eq]
noncomputable def kcOf (S : AW) (e : Ent) : Nat × List AV := (keyN e, oel [] (lastOf S e.val) fun cs => rflat cs)
theorem flush1_some {S : AW} {so n : Nat} {rs rs' : RL} {e : Ent} (h : flush1 S so n rs e = some rs') : ∃ cs, lastOf S e.val = some cs ∧ keyN e < n ∧ rput rs (so + keyN e * 512) cs = some rs' := by
  simp only [flush1, ob_some, tst_some, blt_iff] at h
  obtain ⟨k, hk, hlt, cs, hcs, hp⟩ := h
  refine ⟨cs, hcs, ?_⟩
  have : keyN e = k := by unfold keyN; rw [hk]; rfl
  rw [this]
  exact ⟨hlt, hp⟩
theorem lastOf_len {S : AW} {v : AV} {cs : RL} (h : lastOf S v = some cs) : (rflat cs).length = 512 := by
  simp only [lastOf, ob_some, tst_some] at h
  obtain ⟨s, _, _, rs, _, h⟩ := h
  exact (rext_some h).2
theorem flush_fold {S : AW} {so n : Nat} {L0 : List AV} : ∀ (es : List Ent) {vis : List Ent} {rs rs' : RL}, lfoldO (flush1 S so n) es rs = some rs' → LaidIn 512 so (kcOf S) L0 vis (rflat rs) → (es.map keyN).Nodup → (∀ e ∈ es, ∀ e' ∈ vis, keyN e' ≠ keyN e) →
    LaidIn 512 so (kcOf S) L0 (es.reverse ++ vis) (rflat rs') ∧ ∀ e ∈ es, so + keyN e * 512 + 512 ≤ L0.length
  | [], vis, rs, rs', h, hl, _, _ => by rw [lfoldO_nil] at h; cases h; exact ⟨hl, fun e h => by cases h⟩
  | e :: es, vis, rs, rs', h, hl, hnd, hv => by
    rw [lfoldO_cons] at h
    cases h1 : flush1 S so n rs e with
    | none => rw [h1] at h; cases h
    | some r1 =>
      rw [h1] at h
      obtain ⟨cs, hcs, hk, hp⟩ := flush1_some h1
      obtain ⟨q1, q2⟩ := rput_some hp
      have hlen := lastOf_len hcs
      rw [hlen] at q1 q2
      have hc2 : (kcOf S e).2 = rflat cs := by unfold kcOf; rw [hcs]; rfl
      have hkc : (kcOf S e).1 = keyN e := rfl
      have hstep : LaidIn 512 so (kcOf S) L0 (e :: vis) (rflat r1) := laidIn_step hl (by rw [hc2]; exact hlen) (fun e' he' => hv e (by simp) e' he') (by rw [hc2, hkc, q1, List.append_assoc]) (by rw [hkc]; exact q2)
      rw [List.map_cons, List.nodup_cons] at hnd
      obtain ⟨f1, f2⟩ := flush_fold es h hstep hnd.2 (fun e1 he1 e' he' => by
        rcases List.mem_cons.1 he' with rfl | he'
        · intro heq; exact hnd.1 (heq ▸ List.mem_map_of_mem he1)
        · exact hv e1 (by simp [he1]) e' he')
      refine ⟨by rw [List.reverse_cons, List.append_assoc]; exact f1, fun e1 he1 => ?_⟩
      rcases List.mem_cons.1 he1 with rfl | he1
      · rw [← hl.1]; exact q2
      · exact f2 e1 he1
end Go.Ev
namespace Go.Ev
open Go.Proofs
def EntOk (sb i clock n : Nat) (e : Ent) : Prop := ∃ k vb vo vl c, e.key = .int .i64 (.ofNat k) ∧ k < n ∧ e.val = .sl vb vo (vl + 1) c ∧ vb ≠ sb ∧ vb ≠ i ∧ vl < 9223372036854775807 ∧ e.born < clock
/-- the loop's middle: what was seen is laid -/
def FI (S1 : AW) (i off sb so it m : Nat) (te : TypeId) (srs : RL) (sop : Option Nat) (es : List Ent) (clock : Nat) (k : Nat) (t : T AV) (d : List ADef) (s : AW) : Prop :=
  d = [] ∧ t.get 0 = some (.ptr i off) ∧ t.get 15 = some (.ptr it 0) ∧ S1.next ≤ s.next ∧ (∀ j, j < S1.next → j ≠ it → j ≠ sb → s.heap.get j = S1.heap.get j) ∧
    ∃ seen rb, s.heap.get it = some (.miter (some m) clock seen clock) ∧ s.heap.get sb = some (.cells te rb sop) ∧ k = (leftOf es seen).length ∧ LaidIn 512 so (kcOf S1) (rflat srs) (es.filter fun e => lmem e.born seen) (rflat rb)
theorem laidIn_congr {B so : Nat} {kc kc' : Ent → Nat × List AV} {L0 L : List AV} {vis : List Ent} (h : LaidIn B so kc L0 vis L) (k : ∀ e ∈ vis, kc' e = kc e) : LaidIn B so kc' L0 vis L := by
  obtain ⟨h1, h2, h3⟩ := h
  refine ⟨h1, fun j hj => h2 j fun e he => ?_, fun e he t ht => ?_⟩
  · have := hj e he; rw [k e he] at this; exact this
  · rw [k e he]; exact h3 e he t ht
theorem flush_has {S : AW} {so n : Nat} : ∀ (es : List Ent) {rs rs' : RL}, lfoldO (flush1 S so n) es rs = some rs' → ∀ e ∈ es, ∃ cs, lastOf S e.val = some cs
  | [], _, _, _, e, he => by cases he
  | x :: es, rs, rs', h, e, he => by
    rw [lfoldO_cons] at h
    cases h1 : flush1 S so n rs x with
    | none => rw [h1] at h; cases h
    | some r1 =>
      rw [h1] at h
      rcases List.mem_cons.1 he with rfl | he
      · obtain ⟨cs, hcs, _⟩ := flush1_some h1; exact ⟨cs, hcs⟩
      · exact flush_has es h e he
theorem laidIn_mem {B so : Nat} {kc : Ent → Nat × List AV} {L0 L : List AV} {vis vis' : List Ent} (h : LaidIn B so kc L0 vis L) (k : ∀ e, e ∈ vis ↔ e ∈ vis') : LaidIn B so kc L0 vis' L :=
  ⟨h.1, fun j hj => h.2.1 j fun e he => hj e ((k e).1 he), fun e he t ht => h.2.2 e ((k e).2 he) t ht⟩
theorem flush_kn {S : AW} {so n : Nat} : ∀ (es : List Ent) {rs rs' : RL}, lfoldO (flush1 S so n) es rs = some rs' → (∀ a ∈ rflat rs, Kn S a) → ∀ a ∈ rflat rs', Kn S a
  | [], _, _, h, k => by rw [lfoldO_nil] at h; cases h; exact k
  | x :: es, rs, rs', h, k => by
    rw [lfoldO_cons] at h
    cases h1 : flush1 S so n rs x with
    | none => rw [h1] at h; cases h
    | some r1 =>
      rw [h1] at h
      obtain ⟨cs, hcs, _, hp⟩ := flush1_some h1
      refine flush_kn es h fun a ha => ?_
      rw [(rput_some hp).1, List.append_assoc] at ha
      rcases List.mem_append.1 ha with ha | ha
      · exact k a (List.mem_of_mem_take ha)
      rcases List.mem_append.1 ha with ha | ha
      · simp only [lastOf, ob_some, tst_some, rcells] at hcs
        obtain ⟨q, _, _, vrs, ⟨o, ho, hr⟩, hx⟩ := hcs
        rw [(rext_some hx).1] at ha
        exact .inr ⟨_, _, _, ho, hr, List.mem_of_mem_drop (List.mem_of_mem_take ha)⟩
      · exact k a (List.mem_of_mem_drop ha)
theorem flush_ret {S : AW} {i off : Nat} {e : TypeId} {rs ds : RL} {op : Option Nat} {sb so n : Nat} {cap : Cap} {m : Nat} {ops : Int} {es : List Ent} {clock : Nat} {te : TypeId} {srs srs' : RL} {sop : Option Nat} (h : DevAt S i off e rs op sb so n cap m ops) (hn : 0 < n)
    (hd : rput rs (off + 4) [(1, .int .i64 (wrapI .i64 (iadd ops (.ofNat 1))))] = some ds) (hm : S.heap.get m = some (.map es clock)) (hsb : S.heap.get sb = some (.cells te srs sop)) (hne : sb ≠ i) (hent : ∀ e ∈ es, EntOk sb i clock n e)
    (hk : (es.map keyN).Nodup) (hb : (es.map Ent.born).Nodup) (hf : lfoldO (flush1 S so n) es srs = some srs') (hdom : ∀ i o, S.heap.get i = some o → i < S.next) :
    Ret sn0 142 [.ptr i off] S (fun v s => v = .int .i64 (.ofNat 0) ∧ s = { heap := ((S.heap.set sb (.cells te srs' sop)).set m (.map [] clock)).set i (.cells e ds op), next := S.next }) := by
  have hmi : m ≠ i := fun e => by rw [e, h.at_] at hm; cases hm
  have hmsb : m ≠ sb := fun e => by rw [e, hsb] at hm; cases hm
  have hii := hdom _ _ h.at_
  have hism := hdom _ _ hm
  have hissb := hdom _ _ hsb
  refine Ret.forget (ret_of_runs sn0_ok fn142 (c := _) rfl ?_) ?_ (Q := fun v s => v = .int .i64 (.ofNat 0) ∧ s.heap.get i = some (.cells e ds op) ∧ s.heap.get m = some (.map [] clock) ∧ (∃ rb, s.heap.get sb = some (.cells te rb sop) ∧ rflat rb = rflat srs') ∧ ∀ j, j < S.next → j ≠ i → j ≠ m → j ≠ sb → s.heap.get j = S.heap.get j)
  · have hsz : frameSz Tryz.f142 [AV.ptr i off] = 37 := by kernel_rfl
    rw [hsz]
    generalize hT : argTm [AV.ptr i off] = T0
    have g0 : T0.get 0 = some (.ptr i off) := by rw [← hT]; kernel_rfl
    clear hT
    refine runs_mid (fun t d s => t.get 0 = some (.ptr i off) ∧ d = [] ∧ s = S) (runs_rs sn0_mixed ?_) ?_
    · simp only [codeK_region, codeK_seq, codeK_cond, codeK_block, codeK_skip, codeK_exit, codeK_ret, rsThen_normal, rsThen_exit, rsThen_ret, codeK_block_normal, orNo_some_eq, stepOp_eq, wantedV_none, opH_move, opH_assign, opH_alloc, opH_box, opH_load, opH_store, opH_nilCheck, opH_binOp, opH_unOp, opH_convert, opH_fieldAddr, opH_indexAddr, opH_extract, opH_range, opH_entry, stepH_val, stepH_rdr, stepH_new, stepH_act, putT_if, putT_none, doneK_eq, aev_tmp, aev_int, aev_bool, aev_nilp, aev_nils, ob_some_eq, iteB_t, iteB_f, tst_t, stepsK_cons, stepsK_nil, T.get_set, reduceIte, Nat.reduceLT, Nat.reduceEqDiff, Nat.succ_eq_add_one, reduceCtorEq, true_and, and_true, and_self, Nat.reduceAdd, vMove, vLoad, vBin, vUn, vConv, vFieldAddr, vIndexAddr, vNil, vExtract, aStore, rsOk_mk, aThen_normal, aThen_exit, aThen_ret, loopQ_normal, loopQ_exit, stepH_va_eq, stepH_vn_eq, oel_some_eq, opH_build, opH_makeMap, opH_mapUpdate, aMapUpdate, vBuild, partsV, opH_pick, vPick, wantedV_some, guardV, beqB_t, beqB_f, notB_t, notB_f, dTup_bool, rlen_one, beq_11, ob_none_eq, oel_none_eq, ieq_nat, ieq_neg_nat, ilt_nat_neg, ilt_neg_nat, aRange, aBuiltin, bClear, vEntry, dBool_bool, dInt_int, dNat_nat, dPtr_ptr, dMap_map, dSl_sl, dTup_tup, dAgg_agg, dStr_str, lget_zero, lget_one, lget_two, notNil_ptr, lmapO_nil', lmapO_cons', vLen, opH_call, hCallee_builtin, hBuiltin_len, hBuiltin_append, hBuiltin_clear, hBuiltin_copy, hBuiltin_delete, int_lit, unitA_eq, storeCells_new, T.set_set, rowOf_cells, rowOf_ro, cellsOfV_agg, cellsOfV_int, cellsOfV_bool, cellsOfV_map, cellsOfV_sl, cellsOfV_ptr, binV_add, binV_sub, binV_mul, binV_lss, binV_leq, binV_gtr, binV_geq, binV_eql, binV_neq, binV_xor, binV_and, binV_or, wrapI_ofNat, iadd_nat, ilt_nat, isub_nat, Nat.add_eq, Nat.sub_eq, Nat.mul_eq, Nat.mul_one, Nat.zero_add, Nat.add_zero, g0]
    rintro t d s ⟨g0, rfl, rfl⟩
    refine runs_mid (fun t d s' => t.get 0 = some (.ptr i off) ∧ d = [] ∧ s' = { heap := s.heap.set i (.cells e ds op), next := s.next }) (runs_mid (fun t d s' => t.get 0 = some (.ptr i off) ∧ d = [] ∧ s' = { heap := s.heap.set i (.cells e ds op), next := s.next } ∧ t.get 3 = some (.int .i64 (.ofNat 0))) (runs_region ?_) ?_) ?_
    · refine ops_op (tm1 := t.set 6 (.ptr i off)) (dfs1 := []) (S1 := s) rfl (by simp only [codeK_region, codeK_seq, codeK_cond, codeK_block, codeK_skip, codeK_exit, codeK_ret, rsThen_normal, rsThen_exit, rsThen_ret, codeK_block_normal, orNo_some_eq, stepOp_eq, wantedV_none, opH_move, opH_assign, opH_alloc, opH_box, opH_load, opH_store, opH_nilCheck, opH_binOp, opH_unOp, opH_convert, opH_fieldAddr, opH_indexAddr, opH_extract, opH_range, opH_entry, stepH_val, stepH_rdr, stepH_new, stepH_act, putT_if, putT_none, doneK_eq, aev_tmp, aev_int, aev_bool, aev_nilp, aev_nils, ob_some_eq, iteB_t, iteB_f, tst_t, stepsK_cons, stepsK_nil, T.get_set, reduceIte, Nat.reduceLT, Nat.reduceEqDiff, Nat.succ_eq_add_one, reduceCtorEq, true_and, and_true, and_self, Nat.reduceAdd, vMove, vLoad, vBin, vUn, vConv, vFieldAddr, vIndexAddr, vNil, vExtract, aStore, rsOk_mk, aThen_normal, aThen_exit, aThen_ret, loopQ_normal, loopQ_exit, stepH_va_eq, stepH_vn_eq, oel_some_eq, opH_build, opH_makeMap, opH_mapUpdate, aMapUpdate, vBuild, partsV, opH_pick, vPick, wantedV_some, guardV, beqB_t, beqB_f, notB_t, notB_f, dTup_bool, rlen_one, beq_11, ob_none_eq, oel_none_eq, ieq_nat, ieq_neg_nat, ilt_nat_neg, ilt_neg_nat, aRange, aBuiltin, bClear, vEntry, dBool_bool, dInt_int, dNat_nat, dPtr_ptr, dMap_map, dSl_sl, dTup_tup, dAgg_agg, dStr_str, lget_zero, lget_one, lget_two, notNil_ptr, lmapO_nil', lmapO_cons', vLen, opH_call, hCallee_builtin, hBuiltin_len, hBuiltin_append, hBuiltin_clear, hBuiltin_copy, hBuiltin_delete, int_lit, unitA_eq, storeCells_new, T.set_set, rowOf_cells, rowOf_ro, cellsOfV_agg, cellsOfV_int, cellsOfV_bool, cellsOfV_map, cellsOfV_sl, cellsOfV_ptr, binV_add, binV_sub, binV_mul, binV_lss, binV_leq, binV_gtr, binV_geq, binV_eql, binV_neq, binV_xor, binV_and, binV_or, wrapI_ofNat, iadd_nat, ilt_nat, isub_nat, Nat.add_eq, Nat.sub_eq, Nat.mul_eq, Nat.mul_one, Nat.zero_add, Nat.add_zero, g0]) ?_
      refine ops_call (q := ⟨168, [], []⟩) rfl rfl rfl rfl (args := [.ptr i off, .int .i64 (.ofNat 0), .int .i64 (.ofNat 0)]) (by simp only [codeK_region, codeK_seq, codeK_cond, codeK_block, codeK_skip, codeK_exit, codeK_ret, rsThen_normal, rsThen_exit, rsThen_ret, codeK_block_normal, orNo_some_eq, stepOp_eq, wantedV_none, opH_move, opH_assign, opH_alloc, opH_box, opH_load, opH_store, opH_nilCheck, opH_binOp, opH_unOp, opH_convert, opH_fieldAddr, opH_indexAddr, opH_extract, opH_range, opH_entry, stepH_val, stepH_rdr, stepH_new, stepH_act, putT_if, putT_none, doneK_eq, aev_tmp, aev_int, aev_bool, aev_nilp, aev_nils, ob_some_eq, iteB_t, iteB_f, tst_t, stepsK_cons, stepsK_nil, T.get_set, reduceIte, Nat.reduceLT, Nat.reduceEqDiff, Nat.succ_eq_add_one, reduceCtorEq, true_and, and_true, and_self, Nat.reduceAdd, vMove, vLoad, vBin, vUn, vConv, vFieldAddr, vIndexAddr, vNil, vExtract, aStore, rsOk_mk, aThen_normal, aThen_exit, aThen_ret, loopQ_normal, loopQ_exit, stepH_va_eq, stepH_vn_eq, oel_some_eq, opH_build, opH_makeMap, opH_mapUpdate, aMapUpdate, vBuild, partsV, opH_pick, vPick, wantedV_some, guardV, beqB_t, beqB_f, notB_t, notB_f, dTup_bool, rlen_one, beq_11, ob_none_eq, oel_none_eq, ieq_nat, ieq_neg_nat, ilt_nat_neg, ilt_neg_nat, aRange, aBuiltin, bClear, vEntry, dBool_bool, dInt_int, dNat_nat, dPtr_ptr, dMap_map, dSl_sl, dTup_tup, dAgg_agg, dStr_str, lget_zero, lget_one, lget_two, notNil_ptr, lmapO_nil', lmapO_cons', vLen, opH_call, hCallee_builtin, hBuiltin_len, hBuiltin_append, hBuiltin_clear, hBuiltin_copy, hBuiltin_delete, int_lit, unitA_eq, storeCells_new, T.set_set, rowOf_cells, rowOf_ro, cellsOfV_agg, cellsOfV_int, cellsOfV_bool, cellsOfV_map, cellsOfV_sl, cellsOfV_ptr, binV_add, binV_sub, binV_mul, binV_lss, binV_leq, binV_gtr, binV_geq, binV_eql, binV_neq, binV_xor, binV_and, binV_or, wrapI_ofNat, iadd_nat, ilt_nat, isub_nat, Nat.add_eq, Nat.sub_eq, Nat.mul_eq, Nat.mul_one, Nat.zero_add, Nat.add_zero]) (operate_ret h hn hd) ?_
      rintro v s' ⟨rfl, rfl⟩
      refine ⟨_, rfl, ops_rest ?_⟩
      simp only [codeK_region, codeK_seq, codeK_cond, codeK_block, codeK_skip, codeK_exit, codeK_ret, rsThen_normal, rsThen_exit, rsThen_ret, codeK_block_normal, orNo_some_eq, stepOp_eq, wantedV_none, opH_move, opH_assign, opH_alloc, opH_box, opH_load, opH_store, opH_nilCheck, opH_binOp, opH_unOp, opH_convert, opH_fieldAddr, opH_indexAddr, opH_extract, opH_range, opH_entry, stepH_val, stepH_rdr, stepH_new, stepH_act, putT_if, putT_none, doneK_eq, aev_tmp, aev_int, aev_bool, aev_nilp, aev_nils, ob_some_eq, iteB_t, iteB_f, tst_t, stepsK_cons, stepsK_nil, T.get_set, reduceIte, Nat.reduceLT, Nat.reduceEqDiff, Nat.succ_eq_add_one, reduceCtorEq, true_and, and_true, and_self, Nat.reduceAdd, vMove, vLoad, vBin, vUn, vConv, vFieldAddr, vIndexAddr, vNil, vExtract, aStore, rsOk_mk, aThen_normal, aThen_exit, aThen_ret, loopQ_normal, loopQ_exit, stepH_va_eq, stepH_vn_eq, oel_some_eq, opH_build, opH_makeMap, opH_mapUpdate, aMapUpdate, vBuild, partsV, opH_pick, vPick, wantedV_some, guardV, beqB_t, beqB_f, notB_t, notB_f, dTup_bool, rlen_one, beq_11, ob_none_eq, oel_none_eq, ieq_nat, ieq_neg_nat, ilt_nat_neg, ilt_neg_nat, aRange, aBuiltin, bClear, vEntry, dBool_bool, dInt_int, dNat_nat, dPtr_ptr, dMap_map, dSl_sl, dTup_tup, dAgg_agg, dStr_str, lget_zero, lget_one, lget_two, notNil_ptr, lmapO_nil', lmapO_cons', vLen, opH_call, hCallee_builtin, hBuiltin_len, hBuiltin_append, hBuiltin_clear, hBuiltin_copy, hBuiltin_delete, int_lit, unitA_eq, storeCells_new, T.set_set, rowOf_cells, rowOf_ro, cellsOfV_agg, cellsOfV_int, cellsOfV_bool, cellsOfV_map, cellsOfV_sl, cellsOfV_ptr, binV_add, binV_sub, binV_mul, binV_lss, binV_leq, binV_gtr, binV_geq, binV_eql, binV_neq, binV_xor, binV_and, binV_or, wrapI_ofNat, iadd_nat, ilt_nat, isub_nat, Nat.add_eq, Nat.sub_eq, Nat.mul_eq, Nat.mul_one, Nat.zero_add, Nat.add_zero, g0]
    · rintro t d s' ⟨g0, rfl, rfl, g3⟩
      refine runs_rs sn0_mixed ?_
      have e1 : Nat.beq 0 0 = true := rfl
      simp only [codeK_region, codeK_seq, codeK_cond, codeK_block, codeK_skip, codeK_exit, codeK_ret, rsThen_normal, rsThen_exit, rsThen_ret, codeK_block_normal, orNo_some_eq, stepOp_eq, wantedV_none, opH_move, opH_assign, opH_alloc, opH_box, opH_load, opH_store, opH_nilCheck, opH_binOp, opH_unOp, opH_convert, opH_fieldAddr, opH_indexAddr, opH_extract, opH_range, opH_entry, stepH_val, stepH_rdr, stepH_new, stepH_act, putT_if, putT_none, doneK_eq, aev_tmp, aev_int, aev_bool, aev_nilp, aev_nils, ob_some_eq, iteB_t, iteB_f, tst_t, stepsK_cons, stepsK_nil, T.get_set, reduceIte, Nat.reduceLT, Nat.reduceEqDiff, Nat.succ_eq_add_one, reduceCtorEq, true_and, and_true, and_self, Nat.reduceAdd, vMove, vLoad, vBin, vUn, vConv, vFieldAddr, vIndexAddr, vNil, vExtract, aStore, rsOk_mk, aThen_normal, aThen_exit, aThen_ret, loopQ_normal, loopQ_exit, stepH_va_eq, stepH_vn_eq, oel_some_eq, opH_build, opH_makeMap, opH_mapUpdate, aMapUpdate, vBuild, partsV, opH_pick, vPick, wantedV_some, guardV, beqB_t, beqB_f, notB_t, notB_f, dTup_bool, rlen_one, beq_11, ob_none_eq, oel_none_eq, ieq_nat, ieq_neg_nat, ilt_nat_neg, ilt_neg_nat, aRange, aBuiltin, bClear, vEntry, dBool_bool, dInt_int, dNat_nat, dPtr_ptr, dMap_map, dSl_sl, dTup_tup, dAgg_agg, dStr_str, lget_zero, lget_one, lget_two, notNil_ptr, lmapO_nil', lmapO_cons', vLen, opH_call, hCallee_builtin, hBuiltin_len, hBuiltin_append, hBuiltin_clear, hBuiltin_copy, hBuiltin_delete, int_lit, unitA_eq, storeCells_new, T.set_set, rowOf_cells, rowOf_ro, cellsOfV_agg, cellsOfV_int, cellsOfV_bool, cellsOfV_map, cellsOfV_sl, cellsOfV_ptr, binV_add, binV_sub, binV_mul, binV_lss, binV_leq, binV_gtr, binV_geq, binV_eql, binV_neq, binV_xor, binV_and, binV_or, wrapI_ofNat, iadd_nat, ilt_nat, isub_nat, Nat.add_eq, Nat.sub_eq, Nat.mul_eq, Nat.mul_one, Nat.zero_add, Nat.add_zero, g0, g3, e1]
    rintro t d s' ⟨g0, rfl, rfl⟩
    have hr1 := rput_some hd
    have hlen1 : ∀ k, k ≠ 4 → rget ds (off + k) = rget rs (off + k) := fun k hk => by
      rw [rget_eq, rget_eq, hr1.1]
      have e0 : (rflat [(1, AV.int .i64 (wrapI .i64 (iadd ops (.ofNat 1))))]) = [AV.int .i64 (wrapI .i64 (iadd ops (.ofNat 1)))] := rfl
      rw [e0] at hr1 ⊢
      have hl : ((rflat rs).take (off + 4)).length = off + 4 := by rw [List.length_take]; have := hr1.2; simp at this; omega
      rcases Nat.lt_or_ge k 4 with h4 | h4
      · rw [List.append_assoc, List.getElem?_append_left (by omega), List.getElem?_take, if_pos (by omega)]
      · rw [List.append_assoc, List.getElem?_append_right (by omega), hl, List.getElem?_append_right (by simp; omega), List.getElem?_drop]
        congr 1; simp; omega
    have f0 : rget ds off = some (.sl sb so n cap) := by have := hlen1 0 (by omega); rw [Nat.add_zero] at this; rw [this]; exact h.safe
    have f1 : rget ds (off + 1) = some (.map m) := by rw [hlen1 1 (by omega)]; exact h.pend
    have a1 : (s.heap.set i (.cells e ds op)).get i = some (.cells e ds op) := T.get_set_same _ _ _
    have a2 : (s.heap.set i (.cells e ds op)).get m = some (.map es clock) := by rw [T.get_set_other _ _ hmi]; exact hm
    have a3 : (s.heap.set i (.cells e ds op)).get sb = some (.cells te srs sop) := by rw [T.get_set_other _ _ hne]; exact hsb
    generalize hS1 : ({ heap := s.heap.set i (.cells e ds op), next := s.next } : AW) = S1
    have b1 : S1.heap.get i = some (.cells e ds op) := by rw [← hS1]; exact a1
    have b2 : S1.heap.get m = some (.map es clock) := by rw [← hS1]; exact a2
    have b3 : S1.heap.get sb = some (.cells te srs sop) := by rw [← hS1]; exact a3
    have bn : S1.next = s.next := by rw [← hS1]
    have b4 : ∀ j, j ≠ i → S1.heap.get j = s.heap.get j := fun j hj => by rw [← hS1]; exact T.get_set_other _ _ hj
    clear a1 a2 a3
    have hlast : ∀ e ∈ es, lastOf S1 e.val = lastOf s e.val := fun e he => by
      obtain ⟨k, vb, vo, vl, c, _, _, e3, _, e5, _⟩ := hent e he
      unfold lastOf rcells
      rw [e3]
      simp only [dSl_sl, ob_some_eq, b4 vb e5]
    have hkc : ∀ e ∈ es, kcOf S1 e = kcOf s e := fun e he => by unfold kcOf; rw [hlast e he]
    obtain ⟨ff1, ff2⟩ := flush_fold (L0 := rflat srs) (vis := []) es hf ⟨rfl, fun j _ => rfl, fun e he => by cases he⟩ hk (fun e _ e' he' => by cases he')
    rw [List.append_nil] at ff1
    refine runs_mid (fun t d s' => d = [] ∧ t.get 0 = some (.ptr i off) ∧ (∀ j, j < S1.next → j ≠ sb → s'.heap.get j = S1.heap.get j) ∧ S1.next ≤ s'.next ∧ ∃ rb, s'.heap.get sb = some (.cells te rb sop) ∧ rflat rb = rflat srs') (runs_mid (FI S1 i off sb so S1.next m te srs sop es clock es.length) (runs_rs sn0_mixed ?_) ?_) ?_
    · have hr := fRange sn0_t60 b2
      simp only [codeK_region, codeK_seq, codeK_cond, codeK_block, codeK_skip, codeK_exit, codeK_ret, rsThen_normal, rsThen_exit, rsThen_ret, codeK_block_normal, orNo_some_eq, stepOp_eq, wantedV_none, opH_move, opH_assign, opH_alloc, opH_box, opH_load, opH_store, opH_nilCheck, opH_binOp, opH_unOp, opH_convert, opH_fieldAddr, opH_indexAddr, opH_extract, opH_range, opH_entry, stepH_val, stepH_rdr, stepH_new, stepH_act, putT_if, putT_none, doneK_eq, aev_tmp, aev_int, aev_bool, aev_nilp, aev_nils, ob_some_eq, iteB_t, iteB_f, tst_t, stepsK_cons, stepsK_nil, T.get_set, reduceIte, Nat.reduceLT, Nat.reduceEqDiff, Nat.succ_eq_add_one, reduceCtorEq, true_and, and_true, and_self, Nat.reduceAdd, vMove, vLoad, vBin, vUn, vConv, vFieldAddr, vIndexAddr, vNil, vExtract, aStore, rsOk_mk, aThen_normal, aThen_exit, aThen_ret, loopQ_normal, loopQ_exit, stepH_va_eq, stepH_vn_eq, oel_some_eq, opH_build, opH_makeMap, opH_mapUpdate, aMapUpdate, vBuild, partsV, opH_pick, vPick, wantedV_some, guardV, beqB_t, beqB_f, notB_t, notB_f, dTup_bool, rlen_one, beq_11, ob_none_eq, oel_none_eq, ieq_nat, ieq_neg_nat, ilt_nat_neg, ilt_neg_nat, aRange, aBuiltin, bClear, vEntry, dBool_bool, dInt_int, dNat_nat, dPtr_ptr, dMap_map, dSl_sl, dTup_tup, dAgg_agg, dStr_str, lget_zero, lget_one, lget_two, notNil_ptr, lmapO_nil', lmapO_cons', vLen, opH_call, hCallee_builtin, hBuiltin_len, hBuiltin_append, hBuiltin_clear, hBuiltin_copy, hBuiltin_delete, int_lit, unitA_eq, storeCells_new, T.set_set, rowOf_cells, rowOf_ro, cellsOfV_agg, cellsOfV_int, cellsOfV_bool, cellsOfV_map, cellsOfV_sl, cellsOfV_ptr, binV_add, binV_sub, binV_mul, binV_lss, binV_leq, binV_gtr, binV_geq, binV_eql, binV_neq, binV_xor, binV_and, binV_or, wrapI_ofNat, iadd_nat, ilt_nat, isub_nat, Nat.add_eq, Nat.sub_eq, Nat.mul_eq, Nat.mul_one, Nat.zero_add, Nat.add_zero, g0, rcells, b1, f0, f1, hr, sn0_ld_59, sn0_ld_60, sn0_ld_3, sn0_ld_4, sn0_ld_97, sn0_st_3, sn0_st_4, sn0_st_97, sn0_fa_62_0, sn0_fa_62_1, sn0_fa_62_2, sn0_fa_62_3, sn0_fa_62_4, sn0_ia_59, sn0_len_59, sn0_eqp_24, sn0_nep_24]
      refine ⟨rfl, by simp only [codeK_region, codeK_seq, codeK_cond, codeK_block, codeK_skip, codeK_exit, codeK_ret, rsThen_normal, rsThen_exit, rsThen_ret, codeK_block_normal, orNo_some_eq, stepOp_eq, wantedV_none, opH_move, opH_assign, opH_alloc, opH_box, opH_load, opH_store, opH_nilCheck, opH_binOp, opH_unOp, opH_convert, opH_fieldAddr, opH_indexAddr, opH_extract, opH_range, opH_entry, stepH_val, stepH_rdr, stepH_new, stepH_act, putT_if, putT_none, doneK_eq, aev_tmp, aev_int, aev_bool, aev_nilp, aev_nils, ob_some_eq, iteB_t, iteB_f, tst_t, stepsK_cons, stepsK_nil, T.get_set, reduceIte, Nat.reduceLT, Nat.reduceEqDiff, Nat.succ_eq_add_one, reduceCtorEq, true_and, and_true, and_self, Nat.reduceAdd, vMove, vLoad, vBin, vUn, vConv, vFieldAddr, vIndexAddr, vNil, vExtract, aStore, rsOk_mk, aThen_normal, aThen_exit, aThen_ret, loopQ_normal, loopQ_exit, stepH_va_eq, stepH_vn_eq, oel_some_eq, opH_build, opH_makeMap, opH_mapUpdate, aMapUpdate, vBuild, partsV, opH_pick, vPick, wantedV_some, guardV, beqB_t, beqB_f, notB_t, notB_f, dTup_bool, rlen_one, beq_11, ob_none_eq, oel_none_eq, ieq_nat, ieq_neg_nat, ilt_nat_neg, ilt_neg_nat, aRange, aBuiltin, bClear, vEntry, dBool_bool, dInt_int, dNat_nat, dPtr_ptr, dMap_map, dSl_sl, dTup_tup, dAgg_agg, dStr_str, lget_zero, lget_one, lget_two, notNil_ptr, lmapO_nil', lmapO_cons', vLen, opH_call, hCallee_builtin, hBuiltin_len, hBuiltin_append, hBuiltin_clear, hBuiltin_copy, hBuiltin_delete, int_lit, unitA_eq, storeCells_new, T.set_set, rowOf_cells, rowOf_ro, cellsOfV_agg, cellsOfV_int, cellsOfV_bool, cellsOfV_map, cellsOfV_sl, cellsOfV_ptr, binV_add, binV_sub, binV_mul, binV_lss, binV_leq, binV_gtr, binV_geq, binV_eql, binV_neq, binV_xor, binV_and, binV_or, wrapI_ofNat, iadd_nat, ilt_nat, isub_nat, Nat.add_eq, Nat.sub_eq, Nat.mul_eq, Nat.mul_one, Nat.zero_add, Nat.add_zero, g0], by simp only [codeK_region, codeK_seq, codeK_cond, codeK_block, codeK_skip, codeK_exit, codeK_ret, rsThen_normal, rsThen_exit, rsThen_ret, codeK_block_normal, orNo_some_eq, stepOp_eq, wantedV_none, opH_move, opH_assign, opH_alloc, opH_box, opH_load, opH_store, opH_nilCheck, opH_binOp, opH_unOp, opH_convert, opH_fieldAddr, opH_indexAddr, opH_extract, opH_range, opH_entry, stepH_val, stepH_rdr, stepH_new, stepH_act, putT_if, putT_none, doneK_eq, aev_tmp, aev_int, aev_bool, aev_nilp, aev_nils, ob_some_eq, iteB_t, iteB_f, tst_t, stepsK_cons, stepsK_nil, T.get_set, reduceIte, Nat.reduceLT, Nat.reduceEqDiff, Nat.succ_eq_add_one, reduceCtorEq, true_and, and_true, and_self, Nat.reduceAdd, vMove, vLoad, vBin, vUn, vConv, vFieldAddr, vIndexAddr, vNil, vExtract, aStore, rsOk_mk, aThen_normal, aThen_exit, aThen_ret, loopQ_normal, loopQ_exit, stepH_va_eq, stepH_vn_eq, oel_some_eq, opH_build, opH_makeMap, opH_mapUpdate, aMapUpdate, vBuild, partsV, opH_pick, vPick, wantedV_some, guardV, beqB_t, beqB_f, notB_t, notB_f, dTup_bool, rlen_one, beq_11, ob_none_eq, oel_none_eq, ieq_nat, ieq_neg_nat, ilt_nat_neg, ilt_neg_nat, aRange, aBuiltin, bClear, vEntry, dBool_bool, dInt_int, dNat_nat, dPtr_ptr, dMap_map, dSl_sl, dTup_tup, dAgg_agg, dStr_str, lget_zero, lget_one, lget_two, notNil_ptr, lmapO_nil', lmapO_cons', vLen, opH_call, hCallee_builtin, hBuiltin_len, hBuiltin_append, hBuiltin_clear, hBuiltin_copy, hBuiltin_delete, int_lit, unitA_eq, storeCells_new, T.set_set, rowOf_cells, rowOf_ro, cellsOfV_agg, cellsOfV_int, cellsOfV_bool, cellsOfV_map, cellsOfV_sl, cellsOfV_ptr, binV_add, binV_sub, binV_mul, binV_lss, binV_leq, binV_gtr, binV_geq, binV_eql, binV_neq, binV_xor, binV_and, binV_or, wrapI_ofNat, iadd_nat, ilt_nat, isub_nat, Nat.add_eq, Nat.sub_eq, Nat.mul_eq, Nat.mul_one, Nat.zero_add, Nat.add_zero], by simp, fun j hj hjn _ => T.get_set_other _ _ hjn, [], srs, T.get_set_same _ _ _, ?_, ?_, ?_⟩
      · show (S1.heap.set S1.next _).get sb = _
        rw [T.get_set_other _ _ (by rw [bn]; exact Nat.ne_of_lt hissb)]; exact b3
      · unfold leftOf
        have : es.filter (fun e => !(lmem e.born [])) = es := List.filter_eq_self.2 (fun e _ => rfl)
        rw [this]
      · rw [List.filter_eq_nil_iff.2 (fun e _ => by simp [lmem_eq])]
        exact ⟨rfl, fun j _ => rfl, fun e he => by cases he⟩
    · rintro t d s' hI
      refine runs_while (FI S1 i off sb so S1.next m te srs sop es clock) es.length _ hI ?_
      rintro q t d s' ⟨rfl, g0, g15, hnx, hold, seen, rb, hit, hsb', hq, hlaid⟩
      have hml : m < S1.next := by rw [bn]; exact hism
      have hm' : s'.heap.get m = some (.map es clock) := by rw [hold m hml (Nat.ne_of_lt hml) hmsb]; exact b2
      have hborn : ∀ e ∈ es, e.born < clock := fun e he => by obtain ⟨_, _, _, _, _, _, _, _, _, _, _, h⟩ := hent e he; exact h
      refine runs_mid (fun t d s2 => d = [] ∧ t.get 0 = some (.ptr i off) ∧ t.get 15 = some (.ptr S1.next 0) ∧ ((leftOf es seen = [] ∧ t.get 17 = some (.bool false) ∧ s2 = s') ∨ ∃ x, x ∈ leftOf es seen ∧ t.get 17 = some (.bool true) ∧ s2 = s'.put S1.next (.miter (some m) clock (x.born :: seen) clock)))
        (runs_region (ops_rel rfl (next_any (it := .tmp 15) rfl (show aev t (.tmp 15) = _ from g15) hit hm' (by rcases es with _ | ⟨x, l⟩; exact .inl rfl; exact .inr ⟨x, by simp, hborn x (by simp)⟩) hborn) ?_)) ?_
      · rintro v s2 (⟨hl, rfl, rfl⟩ | ⟨x, hx, rfl, rfl⟩)
        · refine ⟨_, rfl, ops_rest ?_⟩
          simp only [codeK_region, codeK_seq, codeK_cond, codeK_block, codeK_skip, codeK_exit, codeK_ret, rsThen_normal, rsThen_exit, rsThen_ret, codeK_block_normal, orNo_some_eq, stepOp_eq, wantedV_none, opH_move, opH_assign, opH_alloc, opH_box, opH_load, opH_store, opH_nilCheck, opH_binOp, opH_unOp, opH_convert, opH_fieldAddr, opH_indexAddr, opH_extract, opH_range, opH_entry, stepH_val, stepH_rdr, stepH_new, stepH_act, putT_if, putT_none, doneK_eq, aev_tmp, aev_int, aev_bool, aev_nilp, aev_nils, ob_some_eq, iteB_t, iteB_f, tst_t, stepsK_cons, stepsK_nil, T.get_set, reduceIte, Nat.reduceLT, Nat.reduceEqDiff, Nat.succ_eq_add_one, reduceCtorEq, true_and, and_true, and_self, Nat.reduceAdd, vMove, vLoad, vBin, vUn, vConv, vFieldAddr, vIndexAddr, vNil, vExtract, aStore, rsOk_mk, aThen_normal, aThen_exit, aThen_ret, loopQ_normal, loopQ_exit, stepH_va_eq, stepH_vn_eq, oel_some_eq, opH_build, opH_makeMap, opH_mapUpdate, aMapUpdate, vBuild, partsV, opH_pick, vPick, wantedV_some, guardV, beqB_t, beqB_f, notB_t, notB_f, dTup_bool, rlen_one, beq_11, ob_none_eq, oel_none_eq, ieq_nat, ieq_neg_nat, ilt_nat_neg, ilt_neg_nat, aRange, aBuiltin, bClear, vEntry, dBool_bool, dInt_int, dNat_nat, dPtr_ptr, dMap_map, dSl_sl, dTup_tup, dAgg_agg, dStr_str, lget_zero, lget_one, lget_two, notNil_ptr, lmapO_nil', lmapO_cons', vLen, opH_call, hCallee_builtin, hBuiltin_len, hBuiltin_append, hBuiltin_clear, hBuiltin_copy, hBuiltin_delete, int_lit, unitA_eq, storeCells_new, T.set_set, rowOf_cells, rowOf_ro, cellsOfV_agg, cellsOfV_int, cellsOfV_bool, cellsOfV_map, cellsOfV_sl, cellsOfV_ptr, binV_add, binV_sub, binV_mul, binV_lss, binV_leq, binV_gtr, binV_geq, binV_eql, binV_neq, binV_xor, binV_and, binV_or, wrapI_ofNat, iadd_nat, ilt_nat, isub_nat, Nat.add_eq, Nat.sub_eq, Nat.mul_eq, Nat.mul_one, Nat.zero_add, Nat.add_zero, g0, g15]
          exact .inl hl
        · refine ⟨_, rfl, ops_rest ?_⟩
          simp only [codeK_region, codeK_seq, codeK_cond, codeK_block, codeK_skip, codeK_exit, codeK_ret, rsThen_normal, rsThen_exit, rsThen_ret, codeK_block_normal, orNo_some_eq, stepOp_eq, wantedV_none, opH_move, opH_assign, opH_alloc, opH_box, opH_load, opH_store, opH_nilCheck, opH_binOp, opH_unOp, opH_convert, opH_fieldAddr, opH_indexAddr, opH_extract, opH_range, opH_entry, stepH_val, stepH_rdr, stepH_new, stepH_act, putT_if, putT_none, doneK_eq, aev_tmp, aev_int, aev_bool, aev_nilp, aev_nils, ob_some_eq, iteB_t, iteB_f, tst_t, stepsK_cons, stepsK_nil, T.get_set, reduceIte, Nat.reduceLT, Nat.reduceEqDiff, Nat.succ_eq_add_one, reduceCtorEq, true_and, and_true, and_self, Nat.reduceAdd, vMove, vLoad, vBin, vUn, vConv, vFieldAddr, vIndexAddr, vNil, vExtract, aStore, rsOk_mk, aThen_normal, aThen_exit, aThen_ret, loopQ_normal, loopQ_exit, stepH_va_eq, stepH_vn_eq, oel_some_eq, opH_build, opH_makeMap, opH_mapUpdate, aMapUpdate, vBuild, partsV, opH_pick, vPick, wantedV_some, guardV, beqB_t, beqB_f, notB_t, notB_f, dTup_bool, rlen_one, beq_11, ob_none_eq, oel_none_eq, ieq_nat, ieq_neg_nat, ilt_nat_neg, ilt_neg_nat, aRange, aBuiltin, bClear, vEntry, dBool_bool, dInt_int, dNat_nat, dPtr_ptr, dMap_map, dSl_sl, dTup_tup, dAgg_agg, dStr_str, lget_zero, lget_one, lget_two, notNil_ptr, lmapO_nil', lmapO_cons', vLen, opH_call, hCallee_builtin, hBuiltin_len, hBuiltin_append, hBuiltin_clear, hBuiltin_copy, hBuiltin_delete, int_lit, unitA_eq, storeCells_new, T.set_set, rowOf_cells, rowOf_ro, cellsOfV_agg, cellsOfV_int, cellsOfV_bool, cellsOfV_map, cellsOfV_sl, cellsOfV_ptr, binV_add, binV_sub, binV_mul, binV_lss, binV_leq, binV_gtr, binV_geq, binV_eql, binV_neq, binV_xor, binV_and, binV_or, wrapI_ofNat, iadd_nat, ilt_nat, isub_nat, Nat.add_eq, Nat.sub_eq, Nat.mul_eq, Nat.mul_one, Nat.zero_add, Nat.add_zero, g0, g15]
          exact .inr ⟨x, hx, rfl⟩
      rintro t d s2 ⟨rfl, g0, g15, (⟨hl, g17, rfl⟩ | ⟨x, hx, g17, rfl⟩)⟩
      · refine runs_rs sn0_mixed ?_
        simp only [codeK_region, codeK_seq, codeK_cond, codeK_block, codeK_skip, codeK_exit, codeK_ret, rsThen_normal, rsThen_exit, rsThen_ret, codeK_block_normal, orNo_some_eq, stepOp_eq, wantedV_none, opH_move, opH_assign, opH_alloc, opH_box, opH_load, opH_store, opH_nilCheck, opH_binOp, opH_unOp, opH_convert, opH_fieldAddr, opH_indexAddr, opH_extract, opH_range, opH_entry, stepH_val, stepH_rdr, stepH_new, stepH_act, putT_if, putT_none, doneK_eq, aev_tmp, aev_int, aev_bool, aev_nilp, aev_nils, ob_some_eq, iteB_t, iteB_f, tst_t, stepsK_cons, stepsK_nil, T.get_set, reduceIte, Nat.reduceLT, Nat.reduceEqDiff, Nat.succ_eq_add_one, reduceCtorEq, true_and, and_true, and_self, Nat.reduceAdd, vMove, vLoad, vBin, vUn, vConv, vFieldAddr, vIndexAddr, vNil, vExtract, aStore, rsOk_mk, aThen_normal, aThen_exit, aThen_ret, loopQ_normal, loopQ_exit, stepH_va_eq, stepH_vn_eq, oel_some_eq, opH_build, opH_makeMap, opH_mapUpdate, aMapUpdate, vBuild, partsV, opH_pick, vPick, wantedV_some, guardV, beqB_t, beqB_f, notB_t, notB_f, dTup_bool, rlen_one, beq_11, ob_none_eq, oel_none_eq, ieq_nat, ieq_neg_nat, ilt_nat_neg, ilt_neg_nat, aRange, aBuiltin, bClear, vEntry, dBool_bool, dInt_int, dNat_nat, dPtr_ptr, dMap_map, dSl_sl, dTup_tup, dAgg_agg, dStr_str, lget_zero, lget_one, lget_two, notNil_ptr, lmapO_nil', lmapO_cons', vLen, opH_call, hCallee_builtin, hBuiltin_len, hBuiltin_append, hBuiltin_clear, hBuiltin_copy, hBuiltin_delete, int_lit, unitA_eq, storeCells_new, T.set_set, rowOf_cells, rowOf_ro, cellsOfV_agg, cellsOfV_int, cellsOfV_bool, cellsOfV_map, cellsOfV_sl, cellsOfV_ptr, binV_add, binV_sub, binV_mul, binV_lss, binV_leq, binV_gtr, binV_geq, binV_eql, binV_neq, binV_xor, binV_and, binV_or, wrapI_ofNat, iadd_nat, ilt_nat, isub_nat, Nat.add_eq, Nat.sub_eq, Nat.mul_eq, Nat.mul_one, Nat.zero_add, Nat.add_zero, g0, g17]
        refine ⟨fun j hj hjs => ?_, hnx, rb, hsb', ?_⟩
        · by_cases hji : j = S1.next
          · omega
          · exact hold j hj hji hjs
        · have hall : ∀ e, e ∈ es.filter (fun e => lmem e.born seen) ↔ e ∈ es.reverse := fun e => by
            rw [List.mem_filter, List.mem_reverse]
            refine ⟨fun h => h.1, fun h => ⟨h, ?_⟩⟩
            cases hb : lmem e.born seen with
            | true => rfl
            | false =>
              have : e ∈ leftOf es seen := List.mem_filter.2 ⟨h, by rw [hb]; rfl⟩
              rw [hl] at this; cases this
          refine laidIn_eq hlaid (laidIn_congr ff1 fun e he => ?_) hall
          rw [hkc e (List.mem_reverse.1 he)]
      · have hxe : x ∈ es := (List.mem_filter.1 hx).1
        have hxs : lmem x.born seen = false := by have := (List.mem_filter.1 hx).2; simpa using this
        obtain ⟨k, vb, vo, vl, c, x1, x2, x3, x4, x5, x6, x7⟩ := hent x hxe
        have x0 := hlast x hxe
        have hin := ff2 x hxe
        have hkn : keyN x = k := by unfold keyN; rw [x1]; rfl
        rw [hkn] at hin
        obtain ⟨cs, hcs⟩ : ∃ cs, lastOf S1 x.val = some cs := by
          rw [x0]
          obtain ⟨cs, h⟩ := flush_has es hf x hxe
          exact ⟨cs, h⟩
        have hcl := lastOf_len hcs
        obtain ⟨ovb, vrs, o1, o2, o3⟩ : ∃ ovb vrs, S1.heap.get vb = some ovb ∧ rowOf ovb = some vrs ∧ rext vrs (vo + vl * 512) 512 = some cs := by
          have h := hcs
          rw [x3] at h
          simp only [lastOf, dSl_sl, ob_some_eq, tst_some, ob_some, rcells] at h
          obtain ⟨_, rs, ⟨o, ho, hr⟩, h⟩ := h
          exact ⟨o, rs, ho, hr, h⟩
        have hvb : vb ≠ S1.next := fun h => by
          rw [h, bn] at o1
          have : S1.heap.get s.next = s.heap.get s.next := b4 _ (by omega)
          rw [this] at o1
          have := hdom _ _ o1
          omega
        have hvlt : vb < S1.next := by
          by_cases hvi : vb = i
          · exact absurd hvi x5
          · rw [b4 vb hvi] at o1; rw [bn]; exact hdom _ _ o1
        have hilt : i < S1.next := by rw [bn]; exact hii
        have hslt : sb < S1.next := by rw [bn]; exact hissb
        generalize hs2 : s'.put S1.next (.miter (some m) clock (x.born :: seen) clock) = s2
        have p0 : ∀ j, j ≠ S1.next → s2.heap.get j = s'.heap.get j := fun j hj => by rw [← hs2]; exact T.get_set_other _ _ hj
        have p1 : s2.heap.get S1.next = some (.miter (some m) clock (x.born :: seen) clock) := by rw [← hs2]; exact T.get_set_same _ _ _
        have p2 : s2.heap.get m = some (.map es clock) := by rw [p0 m (Nat.ne_of_lt hml)]; exact hm'
        have p3 : s2.heap.get i = some (.cells e ds op) := by rw [p0 i (Nat.ne_of_lt hilt), hold i hilt (Nat.ne_of_lt hilt) (Ne.symm hne)]; exact b1
        have p4 : s2.heap.get sb = some (.cells te rb sop) := by rw [p0 sb (Nat.ne_of_lt hslt)]; exact hsb'
        have p5 : s2.heap.get vb = some ovb := by rw [p0 vb hvb, hold vb hvlt hvb x4]; exact o1
        have pn : s2.next = s'.next := by rw [← hs2]; rfl
        have hE := entryV_at p1 p2 rfl (lfind_born hxe hb)
        refine runs_seq (runs_rs sn0_mixed ?_)
        simp only [codeK_region, codeK_seq, codeK_cond, codeK_block, codeK_skip, codeK_exit, codeK_ret, rsThen_normal, rsThen_exit, rsThen_ret, codeK_block_normal, orNo_some_eq, stepOp_eq, wantedV_none, opH_move, opH_assign, opH_alloc, opH_box, opH_load, opH_store, opH_nilCheck, opH_binOp, opH_unOp, opH_convert, opH_fieldAddr, opH_indexAddr, opH_extract, opH_range, opH_entry, stepH_val, stepH_rdr, stepH_new, stepH_act, putT_if, putT_none, doneK_eq, aev_tmp, aev_int, aev_bool, aev_nilp, aev_nils, ob_some_eq, iteB_t, iteB_f, tst_t, stepsK_cons, stepsK_nil, T.get_set, reduceIte, Nat.reduceLT, Nat.reduceEqDiff, Nat.succ_eq_add_one, reduceCtorEq, true_and, and_true, and_self, Nat.reduceAdd, vMove, vLoad, vBin, vUn, vConv, vFieldAddr, vIndexAddr, vNil, vExtract, aStore, rsOk_mk, aThen_normal, aThen_exit, aThen_ret, loopQ_normal, loopQ_exit, stepH_va_eq, stepH_vn_eq, oel_some_eq, opH_build, opH_makeMap, opH_mapUpdate, aMapUpdate, vBuild, partsV, opH_pick, vPick, wantedV_some, guardV, beqB_t, beqB_f, notB_t, notB_f, dTup_bool, rlen_one, beq_11, ob_none_eq, oel_none_eq, ieq_nat, ieq_neg_nat, ilt_nat_neg, ilt_neg_nat, aRange, aBuiltin, bClear, vEntry, dBool_bool, dInt_int, dNat_nat, dPtr_ptr, dMap_map, dSl_sl, dTup_tup, dAgg_agg, dStr_str, lget_zero, lget_one, lget_two, notNil_ptr, lmapO_nil', lmapO_cons', vLen, opH_call, hCallee_builtin, hBuiltin_len, hBuiltin_append, hBuiltin_clear, hBuiltin_copy, hBuiltin_delete, int_lit, unitA_eq, storeCells_new, T.set_set, rowOf_cells, rowOf_ro, cellsOfV_agg, cellsOfV_int, cellsOfV_bool, cellsOfV_map, cellsOfV_sl, cellsOfV_ptr, binV_add, binV_sub, binV_mul, binV_lss, binV_leq, binV_gtr, binV_geq, binV_eql, binV_neq, binV_xor, binV_and, binV_or, wrapI_ofNat, iadd_nat, ilt_nat, isub_nat, Nat.add_eq, Nat.sub_eq, Nat.mul_eq, Nat.mul_one, Nat.zero_add, Nat.add_zero, g17]
        refine runs_block (runs_mid (fun t d s3 => d = [] ∧ t.get 0 = some (.ptr i off) ∧ t.get 15 = some (.ptr S1.next 0) ∧ t.get 4 = some (.int .i64 (.ofNat k)) ∧ t.get 5 = some (.sl vb vo (vl + 1) c) ∧ s3 = s2) (runs_rs sn0_mixed ?_) ?_)
        · simp only [codeK_region, codeK_seq, codeK_cond, codeK_block, codeK_skip, codeK_exit, codeK_ret, rsThen_normal, rsThen_exit, rsThen_ret, codeK_block_normal, orNo_some_eq, stepOp_eq, wantedV_none, opH_move, opH_assign, opH_alloc, opH_box, opH_load, opH_store, opH_nilCheck, opH_binOp, opH_unOp, opH_convert, opH_fieldAddr, opH_indexAddr, opH_extract, opH_range, opH_entry, stepH_val, stepH_rdr, stepH_new, stepH_act, putT_if, putT_none, doneK_eq, aev_tmp, aev_int, aev_bool, aev_nilp, aev_nils, ob_some_eq, iteB_t, iteB_f, tst_t, stepsK_cons, stepsK_nil, T.get_set, reduceIte, Nat.reduceLT, Nat.reduceEqDiff, Nat.succ_eq_add_one, reduceCtorEq, true_and, and_true, and_self, Nat.reduceAdd, vMove, vLoad, vBin, vUn, vConv, vFieldAddr, vIndexAddr, vNil, vExtract, aStore, rsOk_mk, aThen_normal, aThen_exit, aThen_ret, loopQ_normal, loopQ_exit, stepH_va_eq, stepH_vn_eq, oel_some_eq, opH_build, opH_makeMap, opH_mapUpdate, aMapUpdate, vBuild, partsV, opH_pick, vPick, wantedV_some, guardV, beqB_t, beqB_f, notB_t, notB_f, dTup_bool, rlen_one, beq_11, ob_none_eq, oel_none_eq, ieq_nat, ieq_neg_nat, ilt_nat_neg, ilt_neg_nat, aRange, aBuiltin, bClear, vEntry, dBool_bool, dInt_int, dNat_nat, dPtr_ptr, dMap_map, dSl_sl, dTup_tup, dAgg_agg, dStr_str, lget_zero, lget_one, lget_two, notNil_ptr, lmapO_nil', lmapO_cons', vLen, opH_call, hCallee_builtin, hBuiltin_len, hBuiltin_append, hBuiltin_clear, hBuiltin_copy, hBuiltin_delete, int_lit, unitA_eq, storeCells_new, T.set_set, rowOf_cells, rowOf_ro, cellsOfV_agg, cellsOfV_int, cellsOfV_bool, cellsOfV_map, cellsOfV_sl, cellsOfV_ptr, binV_add, binV_sub, binV_mul, binV_lss, binV_leq, binV_gtr, binV_geq, binV_eql, binV_neq, binV_xor, binV_and, binV_or, wrapI_ofNat, iadd_nat, ilt_nat, isub_nat, Nat.add_eq, Nat.sub_eq, Nat.mul_eq, Nat.mul_one, Nat.zero_add, Nat.add_zero, g0, g15, hE, x1, x3]
        rintro t d s3 ⟨rfl, g0, g15, g4, g5, rfl⟩
        refine runs_rs sn0_mixed (codeK_draw (by kernel_rfl) ?_)
        have e1 : subNN (vl + 1) 1 = .ofNat vl := by rw [subNN_le (by omega)]; rfl
        have e2 : wrapN .i64 vl = .ofNat vl := wrapN_le (by simp only [pmax_i64]; omega)
        have e3 : Nat.blt vl (vl + 1) = true := blt_iff.2 (by omega)
        have e4 : Nat.blt k n = true := blt_iff.2 x2
        have e5 : Nat.beq (rlen cs) 512 = true := by rw [rlen_eq, hcl]; exact beq_self _
        obtain ⟨rb', hp, hp'⟩ := rput_mk (rs := rb) (new := cs) (off := so + k * 512) (by rw [hcl, hlaid.1]; exact hin)
        simp only [codeK_region, codeK_seq, codeK_cond, codeK_block, codeK_skip, codeK_exit, codeK_ret, rsThen_normal, rsThen_exit, rsThen_ret, codeK_block_normal, orNo_some_eq, stepOp_eq, wantedV_none, opH_move, opH_assign, opH_alloc, opH_box, opH_load, opH_store, opH_nilCheck, opH_binOp, opH_unOp, opH_convert, opH_fieldAddr, opH_indexAddr, opH_extract, opH_range, opH_entry, stepH_val, stepH_rdr, stepH_new, stepH_act, putT_if, putT_none, doneK_eq, aev_tmp, aev_int, aev_bool, aev_nilp, aev_nils, ob_some_eq, iteB_t, iteB_f, tst_t, stepsK_cons, stepsK_nil, T.get_set, reduceIte, Nat.reduceLT, Nat.reduceEqDiff, Nat.succ_eq_add_one, reduceCtorEq, true_and, and_true, and_self, Nat.reduceAdd, vMove, vLoad, vBin, vUn, vConv, vFieldAddr, vIndexAddr, vNil, vExtract, aStore, rsOk_mk, aThen_normal, aThen_exit, aThen_ret, loopQ_normal, loopQ_exit, stepH_va_eq, stepH_vn_eq, oel_some_eq, opH_build, opH_makeMap, opH_mapUpdate, aMapUpdate, vBuild, partsV, opH_pick, vPick, wantedV_some, guardV, beqB_t, beqB_f, notB_t, notB_f, dTup_bool, rlen_one, beq_11, ob_none_eq, oel_none_eq, ieq_nat, ieq_neg_nat, ilt_nat_neg, ilt_neg_nat, aRange, aBuiltin, bClear, vEntry, dBool_bool, dInt_int, dNat_nat, dPtr_ptr, dMap_map, dSl_sl, dTup_tup, dAgg_agg, dStr_str, lget_zero, lget_one, lget_two, notNil_ptr, lmapO_nil', lmapO_cons', vLen, opH_call, hCallee_builtin, hBuiltin_len, hBuiltin_append, hBuiltin_clear, hBuiltin_copy, hBuiltin_delete, int_lit, unitA_eq, storeCells_new, T.set_set, rowOf_cells, rowOf_ro, cellsOfV_agg, cellsOfV_int, cellsOfV_bool, cellsOfV_map, cellsOfV_sl, cellsOfV_ptr, binV_add, binV_sub, binV_mul, binV_lss, binV_leq, binV_gtr, binV_geq, binV_eql, binV_neq, binV_xor, binV_and, binV_or, wrapI_ofNat, iadd_nat, ilt_nat, isub_nat, Nat.add_eq, Nat.sub_eq, Nat.mul_eq, Nat.mul_one, Nat.zero_add, Nat.add_zero, seqK_nil, seqK_cons, seqH_val, seqH_rdr, seqH_new, seqH_act, seqH_call, seqH_vn, seqH_va, layAll_nil, layAll_cons, List.length_cons, List.length_nil, g0, g4, g5, rcells, p3, p5, o2, o3, f0, e1, e2, e3, e4, e5, storeCells_at' p4, hp, sn0_ld_59, sn0_ld_60, sn0_ld_3, sn0_ld_4, sn0_ld_97, sn0_st_3, sn0_st_4, sn0_st_97, sn0_fa_62_0, sn0_fa_62_1, sn0_fa_62_2, sn0_fa_62_3, sn0_fa_62_4, sn0_ia_59, sn0_len_59, sn0_eqp_24, sn0_nep_24]
        have hc2 : (kcOf S1 x).2 = rflat cs := by unfold kcOf; rw [hcs]; rfl
        have hc1 : (kcOf S1 x).1 = k := hkn
        refine ⟨_, by rw [hq]; exact left_step hx, rfl, by simp only [codeK_region, codeK_seq, codeK_cond, codeK_block, codeK_skip, codeK_exit, codeK_ret, rsThen_normal, rsThen_exit, rsThen_ret, codeK_block_normal, orNo_some_eq, stepOp_eq, wantedV_none, opH_move, opH_assign, opH_alloc, opH_box, opH_load, opH_store, opH_nilCheck, opH_binOp, opH_unOp, opH_convert, opH_fieldAddr, opH_indexAddr, opH_extract, opH_range, opH_entry, stepH_val, stepH_rdr, stepH_new, stepH_act, putT_if, putT_none, doneK_eq, aev_tmp, aev_int, aev_bool, aev_nilp, aev_nils, ob_some_eq, iteB_t, iteB_f, tst_t, stepsK_cons, stepsK_nil, T.get_set, reduceIte, Nat.reduceLT, Nat.reduceEqDiff, Nat.succ_eq_add_one, reduceCtorEq, true_and, and_true, and_self, Nat.reduceAdd, vMove, vLoad, vBin, vUn, vConv, vFieldAddr, vIndexAddr, vNil, vExtract, aStore, rsOk_mk, aThen_normal, aThen_exit, aThen_ret, loopQ_normal, loopQ_exit, stepH_va_eq, stepH_vn_eq, oel_some_eq, opH_build, opH_makeMap, opH_mapUpdate, aMapUpdate, vBuild, partsV, opH_pick, vPick, wantedV_some, guardV, beqB_t, beqB_f, notB_t, notB_f, dTup_bool, rlen_one, beq_11, ob_none_eq, oel_none_eq, ieq_nat, ieq_neg_nat, ilt_nat_neg, ilt_neg_nat, aRange, aBuiltin, bClear, vEntry, dBool_bool, dInt_int, dNat_nat, dPtr_ptr, dMap_map, dSl_sl, dTup_tup, dAgg_agg, dStr_str, lget_zero, lget_one, lget_two, notNil_ptr, lmapO_nil', lmapO_cons', vLen, opH_call, hCallee_builtin, hBuiltin_len, hBuiltin_append, hBuiltin_clear, hBuiltin_copy, hBuiltin_delete, int_lit, unitA_eq, storeCells_new, T.set_set, rowOf_cells, rowOf_ro, cellsOfV_agg, cellsOfV_int, cellsOfV_bool, cellsOfV_map, cellsOfV_sl, cellsOfV_ptr, binV_add, binV_sub, binV_mul, binV_lss, binV_leq, binV_gtr, binV_geq, binV_eql, binV_neq, binV_xor, binV_and, binV_or, wrapI_ofNat, iadd_nat, ilt_nat, isub_nat, Nat.add_eq, Nat.sub_eq, Nat.mul_eq, Nat.mul_one, Nat.zero_add, Nat.add_zero, g0], by simp only [codeK_region, codeK_seq, codeK_cond, codeK_block, codeK_skip, codeK_exit, codeK_ret, rsThen_normal, rsThen_exit, rsThen_ret, codeK_block_normal, orNo_some_eq, stepOp_eq, wantedV_none, opH_move, opH_assign, opH_alloc, opH_box, opH_load, opH_store, opH_nilCheck, opH_binOp, opH_unOp, opH_convert, opH_fieldAddr, opH_indexAddr, opH_extract, opH_range, opH_entry, stepH_val, stepH_rdr, stepH_new, stepH_act, putT_if, putT_none, doneK_eq, aev_tmp, aev_int, aev_bool, aev_nilp, aev_nils, ob_some_eq, iteB_t, iteB_f, tst_t, stepsK_cons, stepsK_nil, T.get_set, reduceIte, Nat.reduceLT, Nat.reduceEqDiff, Nat.succ_eq_add_one, reduceCtorEq, true_and, and_true, and_self, Nat.reduceAdd, vMove, vLoad, vBin, vUn, vConv, vFieldAddr, vIndexAddr, vNil, vExtract, aStore, rsOk_mk, aThen_normal, aThen_exit, aThen_ret, loopQ_normal, loopQ_exit, stepH_va_eq, stepH_vn_eq, oel_some_eq, opH_build, opH_makeMap, opH_mapUpdate, aMapUpdate, vBuild, partsV, opH_pick, vPick, wantedV_some, guardV, beqB_t, beqB_f, notB_t, notB_f, dTup_bool, rlen_one, beq_11, ob_none_eq, oel_none_eq, ieq_nat, ieq_neg_nat, ilt_nat_neg, ilt_neg_nat, aRange, aBuiltin, bClear, vEntry, dBool_bool, dInt_int, dNat_nat, dPtr_ptr, dMap_map, dSl_sl, dTup_tup, dAgg_agg, dStr_str, lget_zero, lget_one, lget_two, notNil_ptr, lmapO_nil', lmapO_cons', vLen, opH_call, hCallee_builtin, hBuiltin_len, hBuiltin_append, hBuiltin_clear, hBuiltin_copy, hBuiltin_delete, int_lit, unitA_eq, storeCells_new, T.set_set, rowOf_cells, rowOf_ro, cellsOfV_agg, cellsOfV_int, cellsOfV_bool, cellsOfV_map, cellsOfV_sl, cellsOfV_ptr, binV_add, binV_sub, binV_mul, binV_lss, binV_leq, binV_gtr, binV_geq, binV_eql, binV_neq, binV_xor, binV_and, binV_or, wrapI_ofNat, iadd_nat, ilt_nat, isub_nat, Nat.add_eq, Nat.sub_eq, Nat.mul_eq, Nat.mul_one, Nat.zero_add, Nat.add_zero, g15], ?_, fun j hj hji hjs => ?_, x.born :: seen, rb', ?_, T.get_set_same _ _ _, rfl, ?_⟩
        · show S1.next ≤ s3.next + 13; omega
        · show (s3.heap.set sb _).get j = _
          rw [T.get_set_other _ _ hjs, p0 j hji]; exact hold j hj hji hjs
        · show (s3.heap.set sb _).get S1.next = _
          rw [T.get_set_other _ _ (Ne.symm (Nat.ne_of_lt hslt))]; exact p1
        · refine laidIn_mem (vis := x :: es.filter fun e => lmem e.born seen) (laidIn_step hlaid (by rw [hc2]; exact hcl) (fun e' he' heq => ?_) (by rw [hc2, hc1, hp', hcl]) (by rw [hc1, hlaid.1]; exact hin)) fun e' => ?_
          · obtain ⟨m1, m2⟩ := List.mem_filter.1 he'
            have : e' = x := inj_of_nodup hk m1 hxe heq
            rw [this, hxs] at m2; cases m2
          · rw [List.mem_cons, List.mem_filter, List.mem_filter, lmem_eq, lmem_eq, List.contains_cons, Bool.or_eq_true, beq_iff_eq]
            constructor
            · rintro (rfl | ⟨m1, m2⟩)
              · exact ⟨hxe, .inl rfl⟩
              · exact ⟨m1, .inr m2⟩
            · rintro ⟨m1, m2 | m2⟩
              · exact .inl (inj_of_nodup hb m1 hxe m2)
              · exact .inr ⟨m1, m2⟩
    · rintro t d s' ⟨rfl, g0, h1, h2, rb, h3, h4⟩
      have hilt : i < S1.next := by rw [bn]; exact hii
      have hmlt : m < S1.next := by rw [bn]; exact hism
      have c1 : s'.heap.get i = some (.cells e ds op) := by rw [h1 i hilt (Ne.symm hne)]; exact b1
      have c2 : s'.heap.get m = some (.map es clock) := by rw [h1 m hmlt hmsb]; exact b2
      have hcl := fClear sn0_t60 c2
      refine runs_rs sn0_mixed ?_
      simp only [codeK_region, codeK_seq, codeK_cond, codeK_block, codeK_skip, codeK_exit, codeK_ret, rsThen_normal, rsThen_exit, rsThen_ret, codeK_block_normal, orNo_some_eq, stepOp_eq, wantedV_none, opH_move, opH_assign, opH_alloc, opH_box, opH_load, opH_store, opH_nilCheck, opH_binOp, opH_unOp, opH_convert, opH_fieldAddr, opH_indexAddr, opH_extract, opH_range, opH_entry, stepH_val, stepH_rdr, stepH_new, stepH_act, putT_if, putT_none, doneK_eq, aev_tmp, aev_int, aev_bool, aev_nilp, aev_nils, ob_some_eq, iteB_t, iteB_f, tst_t, stepsK_cons, stepsK_nil, T.get_set, reduceIte, Nat.reduceLT, Nat.reduceEqDiff, Nat.succ_eq_add_one, reduceCtorEq, true_and, and_true, and_self, Nat.reduceAdd, vMove, vLoad, vBin, vUn, vConv, vFieldAddr, vIndexAddr, vNil, vExtract, aStore, rsOk_mk, aThen_normal, aThen_exit, aThen_ret, loopQ_normal, loopQ_exit, stepH_va_eq, stepH_vn_eq, oel_some_eq, opH_build, opH_makeMap, opH_mapUpdate, aMapUpdate, vBuild, partsV, opH_pick, vPick, wantedV_some, guardV, beqB_t, beqB_f, notB_t, notB_f, dTup_bool, rlen_one, beq_11, ob_none_eq, oel_none_eq, ieq_nat, ieq_neg_nat, ilt_nat_neg, ilt_neg_nat, aRange, aBuiltin, bClear, vEntry, dBool_bool, dInt_int, dNat_nat, dPtr_ptr, dMap_map, dSl_sl, dTup_tup, dAgg_agg, dStr_str, lget_zero, lget_one, lget_two, notNil_ptr, lmapO_nil', lmapO_cons', vLen, opH_call, hCallee_builtin, hBuiltin_len, hBuiltin_append, hBuiltin_clear, hBuiltin_copy, hBuiltin_delete, int_lit, unitA_eq, storeCells_new, T.set_set, rowOf_cells, rowOf_ro, cellsOfV_agg, cellsOfV_int, cellsOfV_bool, cellsOfV_map, cellsOfV_sl, cellsOfV_ptr, binV_add, binV_sub, binV_mul, binV_lss, binV_leq, binV_gtr, binV_geq, binV_eql, binV_neq, binV_xor, binV_and, binV_or, wrapI_ofNat, iadd_nat, ilt_nat, isub_nat, Nat.add_eq, Nat.sub_eq, Nat.mul_eq, Nat.mul_one, Nat.zero_add, Nat.add_zero, g0, rcells, c1, f1, hcl, sn0_ld_59, sn0_ld_60, sn0_ld_3, sn0_ld_4, sn0_ld_97, sn0_st_3, sn0_st_4, sn0_st_97, sn0_fa_62_0, sn0_fa_62_1, sn0_fa_62_2, sn0_fa_62_3, sn0_fa_62_4, sn0_ia_59, sn0_len_59, sn0_eqp_24, sn0_nep_24]
      refine ⟨rfl, .int .i64 (.ofNat 0), resultsV_one (r := 2) rfl (by simp only [codeK_region, codeK_seq, codeK_cond, codeK_block, codeK_skip, codeK_exit, codeK_ret, rsThen_normal, rsThen_exit, rsThen_ret, codeK_block_normal, orNo_some_eq, stepOp_eq, wantedV_none, opH_move, opH_assign, opH_alloc, opH_box, opH_load, opH_store, opH_nilCheck, opH_binOp, opH_unOp, opH_convert, opH_fieldAddr, opH_indexAddr, opH_extract, opH_range, opH_entry, stepH_val, stepH_rdr, stepH_new, stepH_act, putT_if, putT_none, doneK_eq, aev_tmp, aev_int, aev_bool, aev_nilp, aev_nils, ob_some_eq, iteB_t, iteB_f, tst_t, stepsK_cons, stepsK_nil, T.get_set, reduceIte, Nat.reduceLT, Nat.reduceEqDiff, Nat.succ_eq_add_one, reduceCtorEq, true_and, and_true, and_self, Nat.reduceAdd, vMove, vLoad, vBin, vUn, vConv, vFieldAddr, vIndexAddr, vNil, vExtract, aStore, rsOk_mk, aThen_normal, aThen_exit, aThen_ret, loopQ_normal, loopQ_exit, stepH_va_eq, stepH_vn_eq, oel_some_eq, opH_build, opH_makeMap, opH_mapUpdate, aMapUpdate, vBuild, partsV, opH_pick, vPick, wantedV_some, guardV, beqB_t, beqB_f, notB_t, notB_f, dTup_bool, rlen_one, beq_11, ob_none_eq, oel_none_eq, ieq_nat, ieq_neg_nat, ilt_nat_neg, ilt_neg_nat, aRange, aBuiltin, bClear, vEntry, dBool_bool, dInt_int, dNat_nat, dPtr_ptr, dMap_map, dSl_sl, dTup_tup, dAgg_agg, dStr_str, lget_zero, lget_one, lget_two, notNil_ptr, lmapO_nil', lmapO_cons', vLen, opH_call, hCallee_builtin, hBuiltin_len, hBuiltin_append, hBuiltin_clear, hBuiltin_copy, hBuiltin_delete, int_lit, unitA_eq, storeCells_new, T.set_set, rowOf_cells, rowOf_ro, cellsOfV_agg, cellsOfV_int, cellsOfV_bool, cellsOfV_map, cellsOfV_sl, cellsOfV_ptr, binV_add, binV_sub, binV_mul, binV_lss, binV_leq, binV_gtr, binV_geq, binV_eql, binV_neq, binV_xor, binV_and, binV_or, wrapI_ofNat, iadd_nat, ilt_nat, isub_nat, Nat.add_eq, Nat.sub_eq, Nat.mul_eq, Nat.mul_one, Nat.zero_add, Nat.add_zero]), rfl, ?_, ⟨rb, ?_, h4⟩, fun j hj hji hjm hjs => ?_⟩
      · rw [if_neg (Ne.symm hmi)]
      · rw [if_neg (Ne.symm hmsb)]; exact h3
      · rw [if_neg hjm, h1 j (by rw [bn]; exact hj) hjs, b4 j hji]
  · rintro v s ⟨rfl, h1, h2, ⟨rb, h3, h4⟩, h5⟩
    refine ⟨_, ⟨rfl, rfl⟩, rfl, .inl trivial, fun j o hj => ?_⟩
    change (((S.heap.set sb (.cells te srs' sop)).set m (.map [] clock)).set i (.cells e ds op)).get j = some o at hj
    rw [T.get_set] at hj
    by_cases e1 : j = i
    · rw [if_pos e1] at hj; cases hj; subst e1
      refine ⟨hii, ⟨_, h1, oEq.refl _⟩, .inr ?_⟩
      intro a ha
      obtain ⟨q1, q2⟩ := rput_some hd
      rw [q1, List.append_assoc] at ha
      rcases List.mem_append.1 ha with ha | ha
      · exact .inr ⟨_, _, _, h.at_, rfl, List.mem_of_mem_take ha⟩
      rcases List.mem_append.1 ha with ha | ha
      · rw [show rflat [(1, AV.int .i64 (wrapI .i64 (iadd ops (.ofNat 1))))] = [AV.int .i64 (wrapI .i64 (iadd ops (.ofNat 1)))] from rfl, List.mem_singleton] at ha
        rw [ha]; exact .inl trivial
      · exact .inr ⟨_, _, _, h.at_, rfl, List.mem_of_mem_drop ha⟩
    rw [if_neg e1, T.get_set] at hj
    by_cases e2 : j = m
    · rw [if_pos e2] at hj; cases hj; subst e2
      exact ⟨hism, ⟨_, h2, oEq.refl _⟩, .inr (fun e he => by cases he)⟩
    rw [if_neg e2, T.get_set] at hj
    by_cases e3 : j = sb
    · rw [if_pos e3] at hj; cases hj; subst e3
      exact ⟨hissb, ⟨_, h3, .inr ⟨_, _, _, _, rfl, rfl, h4⟩⟩, .inr (flush_kn es hf fun a ha => .inr ⟨_, _, _, hsb, rfl, ha⟩)⟩
    rw [if_neg e3] at hj
    have hlt := hdom _ _ hj
    exact ⟨hlt, ⟨o, by rw [h5 j hlt e1 e2 e3]; exact hj, oEq.refl _⟩, .inl hj⟩
end Go.Ev
