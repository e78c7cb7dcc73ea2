/- The contracts joined. -/
import Derived.Test.YtdkkdfplkmfheaaGreatDoorSa
import Derived.Test.YtdkkdfplkmfheaaGreatDoorSb
import Derived.Test.YtdkkdfplkmfheaaGreatDoorSc
import Derived.Test.YtdkkdfplkmfheaaGreatDoorSd
set_option linter.unusedSimpArgs false
set_option linter.unusedVariables false
namespace Go.Ev
open Go.Proofs
theorem ikeq_true {k j : IntKind} (h : ikeq k j = true) : k = j := by
  have h := eq_of_beq h
  cases k <;> cases j <;> first | rfl | cases h
theorem ieq_true {x y : Int} (h : ieq x y = true) : x = y := by
  cases x <;> cases y
  · have := eq_of_beq (show Nat.beq _ _ = true from h); rw [this]
  · cases h
  · cases h
  · have := eq_of_beq (show Nat.beq _ _ = true from h); rw [this]
theorem flush_key {S : AW} {so n : Nat} : ∀ (es : List Ent) {rs rs' : RL}, lfoldO (flush1 S so n) es rs = some rs' → ∀ e ∈ es, ∃ k, dNat e.key = some k ∧ k < n
  | [], _, _, _, e, he => by cases he
  | x :: es, rs, rs', h, e, he => by
    rw [lfoldO_cons] at h
    cases h1 : flush1 S so n rs x with
    | none => rw [h1] at h; cases h
    | some r1 =>
      rw [h1] at h
      rcases List.mem_cons.1 he with rfl | he
      · simp only [flush1, ob_some, tst_some, blt_iff] at h1
        obtain ⟨k, hk, hlt, _⟩ := h1
        exact ⟨k, hk, hlt⟩
      · exact flush_key es h e he
theorem dom_of {E : Env} {S : AW} {w : World} (h : Sim E S w) : Dom S := fun i o hi => by
  rcases Nat.lt_or_ge i S.next with hl | hl
  · exact hl
  · obtain ⟨l, hl', _⟩ := h.obj i o hi
    rw [h.new i hl] at hl'; cases hl'
theorem sum_prim {args : List AV} {S S' : AW} {v : AV} {E : Env} {w : World} {vs : List Value} (h : sumP args S = some (v, S')) (hS : Sim E S w) (ha : LR E args vs) : CallR sn0 109 vs.toArray w E S v S' := by
  simp only [sumP, ob_some, tst_some, forceN_eq, Option.some.injEq, Prod.mk.injEq] at h
  obtain ⟨a, h1, s, h2, hle, rs, h3, r, h4, l, h5, rfl, rfl⟩ := h
  rw [one1_some] at h1; subst h1
  rw [dSl_some] at h2; subst h2
  obtain ⟨k1, k2⟩ := rext_some h4
  obtain ⟨b1, b2⟩ := bytesOfR_some h5
  have hlen : l.length = s.len := by rw [← k2, b1, List.length_map]
  rw [← hlen] at ha
  refine Det.callR (sum_ret s.i s.off s.cap l S rs h3 (by rw [hlen]; have := ble_iff.1 hle; omega) b2 (fun k x hk => ?_) (dom_of hS)) hS ha
  have hk' : k < s.len := by rw [← hlen]; exact (List.getElem?_eq_some_iff.1 hk).1
  have e1 : (rflat r)[k]? = some (.int .u8 (.ofNat x)) := by rw [b1, List.getElem?_map, hk]; rfl
  rw [k1, List.getElem?_take, if_pos hk', List.getElem?_drop] at e1
  rw [rget_eq]; exact e1
theorem flush_prim {args : List AV} {S S' : AW} {v : AV} {E : Env} {w : World} {vs : List Value} (h : flushP args S = some (v, S')) (hS : Sim E S w) (ha : LR E args vs) : CallR sn0 142 vs.toArray w E S v S' := by
  simp only [flushP, ob_some, tst_some, Option.some.injEq, Prod.mk.injEq] at h
  obtain ⟨a, h1, d, h2, hok, o, h3, r, h4, rs, h5, ds, h6, rfl, rfl⟩ := h
  rw [one1_some] at h1; subst h1
  rw [dRow_some] at h4; subst h4
  simp only [dDv, ob_some, tst_some, Option.some.injEq, dPtr_some, dRow_some, dSl_some, dMap_some, dMp_some, dInt_some, dBool_some] at h2
  obtain ⟨p, rfl, o2, p1, r2, rfl, b, p2, sl, rfl, c, p3, m, rfl, o3, p4, mp, rfl, f, p5, fk, rfl, dn, p6, db, rfl, n, p7, nk, rfl, p8, p9, rfl⟩ := h2
  simp only [andB_eq, Bool.and_eq_true, notB_eq, Bool.not_eq_true'] at p8 p9
  simp only [dvOk, andB_eq, Bool.and_eq_true, lall_eq, List.all_eq_true, notB_eq, Bool.not_eq_true', blt_iff] at hok
  obtain ⟨q1, q2, q3, q4, q5⟩ := hok
  have hf : fk = (.i64, .negSucc 0) := Prod.ext (ikeq_true p9.1) (ieq_true p8.1)
  have hn : nk.1 = .i64 := ikeq_true p9.2
  obtain ⟨nk1, nk2⟩ := nk
  obtain rfl : nk1 = .i64 := hn
  rw [hf] at p5
  rw [p8.2] at p6
  have hdev : DevAt S p.1 p.2 r2.e r2.rs r2.op sl.i sl.off sl.len sl.cap m nk2 := ⟨p1, p2, p3, p5, p6, p7⟩
  have hent : ∀ e ∈ mp.es, EntOk sl.i p.1 mp.clock sl.len e := fun e he => by
    have h7 := q2 e he
    unfold entOk at h7
    cases hk : dInt e.key with
    | none => rw [hk] at h7; cases h7
    | some k =>
      cases hv : dSl e.val with
      | none => rw [hk, hv] at h7; cases h7
      | some s =>
        rw [hk, hv] at h7
        simp only [oel_some_eq, andB_eq, Bool.and_eq_true, notB_eq, Bool.not_eq_true', blt_iff, ble_iff] at h7
        obtain ⟨t1, t2, t3, t4, t5, t6⟩ := h7
        obtain ⟨cs, hcs⟩ := flush_has mp.es h5 e he
        -- the key is below: the fold says so
        obtain ⟨kn, hkn, hlt⟩ := flush_key mp.es h5 e he
        rw [dInt_some] at hk
        rw [dSl_some] at hv
        have hkk : k = (.i64, .ofNat kn) := by
          rw [hk] at hkn
          have h8 : natOf k.2 = some kn := hkn
          rw [natOf_some] at h8
          exact Prod.ext (ikeq_true t1) h8
        refine ⟨kn, s.i, s.off, s.len - 1, s.cap, by rw [hk, hkk], hlt, ?_, ne_of_beq t2, ne_of_beq t3, by omega, t6⟩
        rw [hv]
        congr 1; omega
  exact Det.callR (flush_ret hdev q1 h6 p4 h3 (ne_of_beq q5) hent (by rw [← lmap_eq]; exact lnodup_iff q3) (by rw [← lmap_eq]; exact lnodup_iff q4) h5 (dom_of hS)) hS ha
theorem keep_prim {args : List AV} {S S' : AW} {v : AV} {E : Env} {w : World} {vs : List Value} (h : keepP 3 args S = some (v, S')) (hS : Sim E S w) (ha : LR E args vs) : CallR sn0 79 vs.toArray w E S v S' := by
  simp only [keepP, ob_some, tst_some, Option.some.injEq, Prod.mk.injEq, andB_eq, Bool.and_eq_true, lall_eq, List.all_eq_true, blt_iff] at h
  obtain ⟨a, h1, p, h2, o, h3, r, h4, f, h5, m, h6, o2, h7, mp, h8, ⟨h9, h10, h11⟩, rs, h12, rfl, rfl⟩ := h
  rw [one1_some] at h1; subst h1
  rw [dPtr_some] at h2; subst h2
  rw [dRow_some] at h4; subst h4
  rw [dMap_some] at h6; subst h6
  rw [dMp_some] at h8; subst h8
  refine Det.callR (keep_ret h3 h5 h7 h12 (fun e he => ?_) h10 (by rw [← lmap_eq]; exact lnodup_iff h11) (dom_of hS)) hS ha
  have hn := h9 e he
  simp only [nodeOk, andB_eq, Bool.and_eq_true, isSomeB_eq, Option.isSome_iff_exists] at hn
  obtain ⟨⟨k, hk⟩, hn⟩ := hn
  rw [dStr_some] at hk
  refine ⟨⟨k, hk⟩, ?_⟩
  cases hv : dPtr e.val with
  | none => rw [hv] at hn; cases hn
  | some q =>
    rw [hv] at hn
    simp only [oel_some_eq, andB_eq, Bool.and_eq_true, notB_eq, Bool.not_eq_true', isSomeB_eq, Option.isSome_iff_exists, ob_some, tst_some, dInt_some] at hn
    obtain ⟨hp, u, rs2, k1, x, k2, kk, rfl, k3, s, k4, k5⟩ := hn
    rw [dPtr_some] at hv
    refine ⟨q.1, q.2, hv, ne_of_beq hp, rs2, kk.2, s, k1, by rw [k2, ikeq_true k3], k4, ?_⟩
    cases hs : dSl s with
    | none =>
      rw [hs, oel_none, tst_some, isNsl_iff] at k5
      exact .inl k5.1
    | some sl =>
      rw [hs, oel_some_eq] at k5
      simp only [tst_some, ob_some, notB_eq, Bool.not_eq_true', ble_iff] at k5
      obtain ⟨c1, c2, o3, c3, cs, c4, rr, c5, _⟩ := k5
      rw [dSl_some] at hs
      exact .inr ⟨sl.i, sl.off, sl.len, sl.cap, o3, cs, rr, hs, ne_of_beq c1, c3, c4, c5, c2⟩
end Go.Ev
namespace Go.Ev
open Go.Proofs
noncomputable def snPr : Nat → Option Prim := fun f => iteB (Nat.beq f 109) (some sumP) (iteB (Nat.beq f 142) (some flushP) (iteB (Nat.beq f 102) (some (sortedP 9 isK)) (iteB (Nat.beq f 79) (some (keepP 3)) none)))
noncomputable def sn : Cx := { P := Tryz.prog, ext := fun _ => none, tt := mkTT Tryz.prog, fns := mkFns Tryz.prog, pr := snPr }
theorem iteB_some {α : Type} {b : Bool} {x y : α} {z : α} (h : iteB b x y = z) : (b = true ∧ x = z) ∨ (b = false ∧ y = z) := by
  cases b
  · exact .inr ⟨rfl, h⟩
  · exact .inl ⟨rfl, h⟩
theorem sn_fit : Fit sn := ⟨by kernel_rfl, by kernel_rfl, sn0_num, fun f x h => (nomatch h), sn0_mixed⟩
theorem callR_sn {f : FuncId} {vs : Array Value} {w : World} {E : Env} {S S' : AW} {v : AV} (h : CallR sn0 f vs w E S v S') : CallR sn f vs w E S v S' := h
theorem sn_ok : COk sn := sn_fit.ok fun f p {args S S' v E w vs} h hp hS ha => by
  rcases iteB_some (show snPr f = some p from h) with ⟨hb, e⟩ | ⟨_, h⟩
  · cases e; obtain rfl := eq_of_beq hb; exact callR_sn (sum_prim hp hS ha)
  rcases iteB_some h with ⟨hb, e⟩ | ⟨_, h⟩
  · cases e; obtain rfl := eq_of_beq hb; exact callR_sn (flush_prim hp hS ha)
  rcases iteB_some h with ⟨hb, e⟩ | ⟨_, h⟩
  · cases e; obtain rfl := eq_of_beq hb; exact callR_sn (sorted_prim (C := sn0) rfl hp hS ha)
  rcases iteB_some h with ⟨hb, e⟩ | ⟨_, h⟩
  · cases e; obtain rfl := eq_of_beq hb; exact callR_sn (keep_prim hp hS ha)
  · cases h
theorem sn_mixed : sn.P.follows .mixedOrders = true := sn0_mixed
end Go.Ev
