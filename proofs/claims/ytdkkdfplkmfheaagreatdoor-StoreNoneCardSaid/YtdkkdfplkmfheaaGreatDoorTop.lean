/- 'cartularylaw11.StoreNone': for every name, bytes and number the call returns true, and each argument reads afterwards as it read before. Condition: the package-level variables that the row lists start as the program's text lays them (the card ties them). -/
import Derived.Test.YtdkkdfplkmfheaaGreatDoorTie
import Derived.Test.YtdkkdfplkmfheaaGreatDoorCards
import Derived.Test.YtdkkdfplkmfheaaGreatDoorSf
import Derived.WalkKit
import Derived.ProofKit
import Derived.OpenShut
import Derived.ShutString
import Derived.ChangeOld
import Derived.Below
import Derived.Handy
import Derived.Lay
import Derived.SevenTiedAt
set_option linter.unusedSimpArgs false
set_option linter.unusedVariables false
namespace Go.Proofs.YtdkkdfplkmfheaaGreatDoor.storeNone
open Go.ChangeShapes Go.WideShapes Go.ChangeAt Go.RowKit
open Go.ChangeMaps (open_string shut_string)
open Go.Ev (sn sn_ok sn_mixed snBase tab64 isTrue sn_run envOf emptyW AV CR rflat)
set_option linter.unusedVariables false
theorem own : ownKnob Tryz.prog.godebug = none := by kernel_rfl
theorem laidOut : laidOutB Tryz.prog = true := by kernel_rfl
def laid : List (String × DataW Unit) := [("math/bits.deBruijn32tab", Rows.laid_math_bits_deBruijn32tab), ("math/bits.deBruijn64tab", Rows.laid_math_bits_deBruijn64tab), ("internal/strconv.uint64pow10", Rows.laid_internal_strconv_uint64pow10)]
def tabN : List Nat := [0, 1, 56, 2, 57, 49, 28, 3, 61, 58, 42, 50, 38, 29, 17, 4, 62, 47, 59, 36, 45, 43, 51, 22, 53, 39, 33, 30, 24, 18, 12, 5, 63, 55, 48, 27, 60, 41, 37, 16, 46, 35, 44, 21, 52, 32, 23, 11, 54, 26, 40, 15, 34, 20, 31, 10, 25, 14, 19, 9, 13, 8, 7, 6]
theorem table_read {H : Type} {enc : TypeId × Value → H} {P : Program} {w : World} {base : Nat} {spare : Nat → Bool} {held : Bool} {fuel t e n : Nat} {cs : List Value} {tab : List Nat} {p : List MemPlace} (ht : P.underlying t = some (.array n e)) (he : P.underlying e = some (.int .u8)) (hc : P.cellsOf e = 1) (hn : P.cellsOf t = n)
    (h : DataW.trod enc P w base spare held fuel t cs = some (.agg (tab.map fun k => .lit (.int .u8 (Int.ofNat k))), p)) : cs = tab.map fun k => Value.int .u8 (Int.ofNat k) := by
  obtain ⟨xs, m, rfl, hx, hl, hxl, hel⟩ := DataW.trod_array ht h
  simp only [Prod.mk.injEq, DataW.agg.injEq] at hx
  have hlen : tab.length = n := by have := congrArg List.length hx.1; simp at this; omega
  apply List.ext_getElem?
  intro i
  by_cases hi : i < n
  · have h1 := hel i hi
    rw [hc, Nat.mul_one] at h1
    have hxi : xs[i]? = some (xs[i]'(by omega)) := by simp [hxl, hi]
    rw [hxi] at h1
    obtain ⟨k, e1, e2, _⟩ := DataW.trod_int he h1
    have h3 := congrArg (fun l : List (DataW H) => l[i]?) hx.1
    simp only [List.getElem?_map, hxi, Option.map_some] at h3
    rw [e2] at h3
    have hti : tab[i]? = some (tab[i]'(by omega)) := by simp [hlen, hi]
    rw [hti] at h3
    simp only [Option.map_some, Option.some.injEq, DataW.lit.injEq, Lit.int.injEq, true_and] at h3
    rw [List.getElem?_map, hti, Option.map_some, h3]
    have h4 : (cs.drop i).head? = some (.int .u8 k) := by
      cases hd : cs.drop i with
      | nil => rw [hd] at e1; cases e1
      | cons a l => rw [hd] at e1; simp at e1; rw [e1]; rfl
    rw [← h4, List.head?_drop]
  · have h1 : cs[i]? = none := by simp; omega
    have h2 : (tab.map fun k => Value.int .u8 (Int.ofNat k))[i]? = none := by simp; omega
    rw [h1, h2]
theorem gTab : Tryz.prog.globalNamed "math/bits.deBruijn64tab" = some 2 := by kernel_rfl
set_option maxRecDepth 100000 in
theorem tTab : ((Tryz.prog.globals[2]?).map (·.type)).bind Tryz.prog.underlying = some (.array 64 5) := by kernel_rfl
set_option maxRecDepth 100000 in
theorem cTab : ((Tryz.prog.globals[2]?).map fun g => Tryz.prog.cellsOf g.type) = some 64 := by kernel_rfl
theorem flatTab : rflat tab64 = tabN.map fun n => AV.int .u8 (Int.ofNat n) := by kernel_rfl
set_option maxRecDepth 100000 in
/-- The table, as it lies when the call begins. -/
theorem of_laid {W : World} (h : laidMetH Tryz.prog laid W) : ∃ (e : TypeId) (fr : Nat × Nat), W.heap[2]? = some (.cells (tabN.map fun k => Value.int .u8 (Int.ofNat k)).toArray e fr) := by
  rw [MakeChecks.laidMetH_plain _ _ _ (by kernel_rfl)] at h
  obtain ⟨ps, ⟨g0, t0, cs0, f0, p0, q0, hg0, ht0, hv0, hd0, ⟨g1, t1, cs1, f1, p1, q1, hg1, ht1, hv1, hd1, _, _⟩, _⟩, _, _⟩ := h
  obtain rfl := Option.some.inj (gTab.symm.trans hg1)
  have hu : Tryz.prog.underlying t1 = some (.array 64 5) := by have := tTab; rw [ht1] at this; exact this
  have hc : Tryz.prog.cellsOf t1 = 64 := by
    have := cTab
    cases hgl : Tryz.prog.globals[2]? with
    | none => rw [hgl] at ht1; cases ht1
    | some g =>
      rw [hgl] at this ht1
      cases ht1
      exact Option.some.inj this
  have hcs := table_read (tab := tabN) hu Tryz.underlying5 (by kernel_rfl) hc hd1
  simp only [World.var?, hg1, Option.bind_some] at hv1
  cases hh : W.heap[2]? with
  | none => rw [hh] at hv1; cases hv1
  | some o =>
    rw [hh] at hv1
    cases o with
    | cells cs e fr =>
      cases hv1
      exact ⟨e, fr, by rw [← hcs]⟩
    | _ => cases hv1
theorem walk (v0 v1 v2 : Value) (h0 : Go.Ev.cellVal v0) (h1 : Go.Ev.cellVal v1) (h2 : Go.Ev.cellVal v2) (W : World) (hL : laidMetH Tryz.prog laid W) : Calls Tryz.prog 3 #[v0, v1, v2] W fun e w' => e = .returned (.bool true) ∧ Below W.heap.size W w' := by
  obtain ⟨e, fr, hb⟩ := of_laid hL
  let om : Nat → Value := fun k => if k = 0 then v0 else if k = 1 then v1 else v2
  have hS := (Go.Ev.Sim.global (g := 2) (rs := tab64) (Go.Ev.sim_empty om W) (by omega) hb (by
    rw [flatTab]
    refine ⟨by simp, fun i a v ha hv => ?_⟩
    rw [List.getElem?_map] at ha hv
    cases ht : tabN[i]? with
    | none => rw [ht] at ha; cases ha
    | some k => rw [ht] at ha hv; cases ha; cases hv; exact ⟨by simp [Go.Ev.VR], trivial⟩) (fun i o h => by cases h)).1
  have hrun := sn_run
  cases hr : (Go.Ev.iv sn 1000 60).call 3 [.opq 0, .opq 1, .opq 2] snBase with
  | none => rw [hr] at hrun; cases hrun
  | some r =>
    obtain ⟨v, S'⟩ := r
    rw [hr] at hrun
    have hv : v = .bool true := by
      have hrun : Go.Ev.oel false (Go.Ev.dBool v) (fun b => b) = true := hrun
      cases hd : Go.Ev.dBool v with
      | none => rw [hd] at hrun; cases hrun
      | some b => rw [hd] at hrun; rw [Go.Ev.dBool_some] at hd; rw [hd]; have : b = true := hrun; rw [this]
    subst hv
    have hc := Go.Ev.calls_of_iv sn_ok sn_mixed (vs := [v0, v1, v2]) hr rfl hS (Go.Ev.LR.cons (by simp [Go.Ev.VR, envOf, om, h0]) (Go.Ev.LR.cons (by simp [Go.Ev.VR, envOf, om, h1]) (Go.Ev.LR.cons (by simp [Go.Ev.VR, envOf, om, h2]) (Go.Ev.LR.nil _))))
    refine hc.mono fun e w' h => ?_
    obtain ⟨x, E', rfl, hx, _, hG⟩ := h
    simp only [Go.Ev.VR] at hx
    subst hx
    refine ⟨rfl, hG.below fun i o hi hw => ?_⟩
    change (Go.Ev.T.set .e 2 (.ro tab64)).get i = some o at hi
    rw [Go.Ev.T.get_set] at hi
    by_cases hi2 : i = 2
    · rw [if_pos hi2] at hi; cases hi; exact hw
    · rw [if_neg hi2] at hi; cases hi
set_option maxRecDepth 100000 in
theorem lifted (os : Os) (started : os.Started) (H : Type) (enc : TypeId × Value → H) :
    ReturnsInHanded {} Tryz.checked os 3 .any (fun w args => (Rows.storeNoneSpec.pre enc Tryz.prog Tryz.f3 [] false w args ∧ laidMetH Tryz.prog laid w) ∧ sizedMet enc Tryz.prog Tryz.f3 (OpenSpec.ofChange Rows.storeNoneSpec) false w args)
      (Rows.storeNoneSpec.post enc Tryz.prog Tryz.f3 false true false false) := by
  refine returnsInHanded_of_change_and (C := Tryz.checked) (X := fun w _ => laidMetH Tryz.prog laid w) (fun _ _ _ hh h => h.of_heap hh) own started (by kernel_rfl) Tryz.func3
    (ChangeSpec.witness_shaped (enc := enc) (C := Tryz.checked) (os := os) (X := fun w _ => laidMetH Tryz.prog laid w) false (World.laidAll Tryz.prog os laid) #[.string ByteArray.empty, .slice none 0 0, .int .i64 0] 8 (World.laidAll_os _ _ _)
      (World.shaped_of_ZipB (by kernel_rfl) (by kernel_rfl)) (by kernel_rfl) (by kernel_rfl) (by kernel_rfl)
      (by rw [MakeChecks.laidMetH_plain _ _ _ (by kernel_rfl)]; exact laidMet_laidAll _ (by kernel_rfl) (by kernel_rfl))) ?_
  intro W base args ds gs before hval0 hW _ _ hL _
  have hval : ∀ (j : Nat) t v, Tryz.f3.params[j]? = some t → args[j]? = some v → Value.okWide Tryz.prog W .any base t v := hval0
  have hW' := hW
  obtain ⟨p, q, hA0, hV, rfl, hfz, hnd⟩ := hW
  have hA : DataW.TrodAll enc Tryz.prog W 0 (fun _ => true) true Tryz.f3.params.toList args.toList ds p := hA0
  rw [Tryz.params3] at hA hval
  obtain ⟨v0, vs0, d0, ds0, p0, q0, hargs, rfl, rfl, h0, r0⟩ := trodAll_cons hA
  obtain ⟨v1, vs1, d1, ds1, p1, q1, rfl, rfl, rfl, h1, r1⟩ := trodAll_cons r0
  obtain ⟨v2, vs2, d2, ds2, p2, q2, rfl, rfl, rfl, h2, r2⟩ := trodAll_cons r1
  obtain ⟨rfl, rfl, rfl⟩ := trodAll_nil r2
  obtain rfl : args = #[v0, v1, v2] := by cases args; simp_all
  obtain ⟨rfl, rfl⟩ := trodVars_none hV
  obtain ⟨a0, rfl, rfl, rfl, w0⟩ := open_string Tryz.underlying9 (hval 0 9 v0 rfl rfl) h0
  obtain ⟨a1, len1, cap1, rfl⟩ := okWide_slice Tryz.underlying22 (hval 1 22 v1 rfl rfl)
  have k1 := h1
  have lt1 : ∀ x ∈ p1, x.block < W.heap.size := by obtain ⟨m, hm⟩ := k1; exact DataW.trod_lt m _ _ _ hm
  obtain ⟨a2, rfl, rfl, rfl, w2⟩ := open_int Tryz.underlying3 (hval 2 3 v2 rfl rfl) h2
  clear hA0 hval0
  refine (walk (.string a0) (.slice a1 len1 cap1) (.int .i64 a2) (show Go.Ev.cellVal (.string a0) from trivial) (show Go.Ev.cellVal (.slice a1 len1 cap1) from trivial) (show Go.Ev.cellVal (.int .i64 a2) from trivial) W hL).mono fun e W' ⟨he, bel⟩ => ?_
  subst he
  exact ⟨_, rfl, _, _, _, [], _, [], hW', trodAll_mk1 (shut_bool Tryz.underlying4 _), (trodAll_cons_mk (shut_string Tryz.underlying9 w0) (trodAll_cons_mk (Below.trod laidOut (by kernel_rfl) (of_decide_eq_true (by kernel_rfl)) k1 bel lt1) (trodAll_cons_mk (shut_int Tryz.underlying3 w2) trodAll_mk0))), rfl, bel.frame _, fun h => by cases h⟩

theorem over : Rows.storeNoneRow.holds Tryz.pinned (OpenSpec.ofChange Rows.storeNoneSpec) :=
  OpenClaim.holds_of_wide 3 Tryz.f3 rfl rfl rfl rfl rfl rfl rfl ⟨rfl, rfl, rfl, rfl, rfl⟩ rfl rfl rfl rfl rfl (by kernel_rfl) Tryz.func3 (by kernel_rfl)
    (of_decide_eq_true (by kernel_rfl)) (by unfold Func.isWrapper; first | (rw [if_pos (by decide +kernel)]; kernel_rfl) | (rw [if_neg (by decide +kernel)]; exact ⟨rfl, rfl⟩))
    (fun os started H enc _ => lifted os started H enc)

theorem card_holds : Rows.StoreNoneCardSaid :=
  Claim7.holds_tied_plain_at .later [] [.data, .data, .data] true (true, "06cb8ad2fc7ea115137beced6393f76f4798c8d765b0fd260714439075857445") false over (fun _ h => by cases h) (by kernel_rfl) (fun _ h => by cases h) storeNone_row_tie rfl ⟨rfl, rfl⟩ (by kernel_rfl) rfl
    (fun f fn hf hfn => by
      obtain rfl : f = 3 := Option.some.inj ((show Tryz.prog.funcNamed "cartulary/cartularylaw11.StoreNone" = some 3 by kernel_rfl).symm.trans hf) |>.symm
      obtain rfl : fn = Tryz.f3 := (Option.some.inj (Tryz.func3.symm.trans hfn)).symm
      exact ⟨by kernel_rfl, fun j t ht => by
        rw [Tryz.params3] at ht
        have hm : t ∈ [9, 22, 3] := by simpa using Array.mem_of_getElem? ht
        have hall : ([9, 22, 3].all fun u => !Tryz.prog.wantsStandIn u) = true := by kernel_rfl
        exact (show Tryz.prog.wantsStandIn t = false by simpa using List.all_eq_true.1 hall t hm)⟩)
    (by kernel_rfl)
#print axioms card_holds
end Go.Proofs.YtdkkdfplkmfheaaGreatDoor.storeNone
