/- The keys of a map, rising: the contract. -/
import Derived.Shelf.SlIter.Nil
import Derived.Shelf.SortM.Plain
import Derived.Shelf.SortM.SortNone
import Derived.Ground.GgzProg
import Derived.Ground.SlgmProg
import Derived.Test.YtdkkdfplkmfheaaGreatDoorProg
import Derived.Test.YtdkkdfplkmfheaaGreatDoorSa
import Derived.Test.YtdkkdfplkmfheaaGreatDoorEf
set_option linter.unusedSimpArgs false
set_option linter.unusedVariables false
namespace Go.Proofs
open Go.RowKit Go.Maps Go.Sort Go.Shelf
def Tryz.keys104_ren : Go.Shelf.Ren := ⟨fun | 7 => 104 | 10 => 152 | n => n, fun | 23 => 142 | 26 => 9 | 3 => 131 | 28 => 175 | 0 => 0 | 27 => 174 | 33 => 108 | 4 => 4 | n => n, fun | n => n⟩
theorem Tryz.keys104 : Go.Proofs.SlLaysZ.n7 Tryz.prog Tryz.keys104_ren := {
  mixed := by kernel_rfl
  f7 := ⟨Tryz.f104.name, by decide, Tryz.func104.trans (congrArg some (by kernel_rfl))⟩
  f10 := ⟨Tryz.f152.name, by decide, Tryz.func152.trans (congrArg some (by kernel_rfl))⟩
  t0 := Tryz.underlying0
  a0 := Tryz.isAgg0
  z0 := Tryz.sizeOf0
  v0 := Tryz.zeroValue0
  t4 := Tryz.underlying4
  a4 := Tryz.isAgg4
  z4 := Tryz.sizeOf4
  v4 := Tryz.zeroValue4
  t23 := Tryz.underlying142
  a23 := Tryz.isAgg142
  z23 := Tryz.sizeOf142
  v23 := Tryz.zeroValue142
  t26 := Tryz.underlying9
  a26 := Tryz.isAgg9
  z26 := Tryz.sizeOf9
  v26 := Tryz.zeroValue9
  t27 := Tryz.underlying174
  a27 := Tryz.isAgg174
  z27 := Tryz.sizeOf174
  v27 := Tryz.zeroValue174
  t28 := Tryz.underlying175
  a28 := Tryz.isAgg175
  z28 := Tryz.sizeOf175
  v28 := Tryz.zeroValue175
  t33 := Tryz.underlying108
  a33 := Tryz.isAgg108
  z33 := Tryz.sizeOf108
  v33 := Tryz.zeroValue108 }
def Tryz.sorted102_ren : Go.Shelf.Ren := ⟨fun | 6 => 102 | 8 => 149 | 9 => 150 | 11 => 175 | 13 => 177 | 12 => 176 | 23 => 192 | 24 => 193 | 14 => 183 | 15 => 184 | 16 => 185 | 17 => 186 | 18 => 187 | 19 => 188 | 20 => 189 | 21 => 190 | 22 => 191 | 25 => 207 | 26 => 208 | 27 => 209 | 28 => 210 | 29 => 211 | 30 => 212 | 31 => 221 | n => n, fun | 26 => 9 | 28 => 175 | 24 => 48 | 0 => 0 | 3 => 3 | 37 => 182 | 48 => 184 | 50 => 112 | 4 => 4 | 40 => 266 | 39 => 265 | 45 => 270 | 5 => 5 | 9 => 9 | 51 => 283 | 55 => 287 | 57 => 294 | 58 => 295 | 33 => 108 | n => n, fun | n => n⟩
theorem Tryz.sorted102 : Go.Proofs.SlLaysZ.n6 Tryz.prog Tryz.sorted102_ren := {
  mixed := by kernel_rfl
  f6 := ⟨Tryz.f102.name, by decide, Tryz.func102.trans (congrArg some (by kernel_rfl))⟩
  f8 := ⟨Tryz.f149.name, by decide, Tryz.func149.trans (congrArg some (by kernel_rfl))⟩
  f11 := ⟨Tryz.f175.name, by decide, Tryz.func175.trans (congrArg some (by kernel_rfl))⟩
  t0 := Tryz.underlying0
  a0 := Tryz.isAgg0
  z0 := Tryz.sizeOf0
  v0 := Tryz.zeroValue0
  t24 := Tryz.underlying48
  a24 := Tryz.isAgg48
  z24 := Tryz.sizeOf48
  v24 := Tryz.zeroValue48
  t26 := Tryz.underlying9
  a26 := Tryz.isAgg9
  z26 := Tryz.sizeOf9
  v26 := Tryz.zeroValue9
  t28 := Tryz.underlying175
  a28 := Tryz.isAgg175
  z28 := Tryz.sizeOf175
  v28 := Tryz.zeroValue175
  i26 := by kernel_rfl }
def Tryz.sort150_ren : Go.Shelf.Ren := ⟨fun | 6 => 150 | 8 => 177 | 9 => 176 | 19 => 192 | 20 => 193 | 21 => 183 | 22 => 184 | 23 => 185 | 24 => 186 | 25 => 187 | 26 => 188 | 27 => 189 | 28 => 190 | 29 => 191 | 36 => 207 | 31 => 208 | 32 => 209 | 37 => 210 | 38 => 211 | 39 => 212 | 41 => 221 | n => n, fun | 27 => 48 | 29 => 9 | 3 => 3 | 32 => 182 | 26 => 48 | 0 => 0 | 44 => 184 | 46 => 112 | 4 => 4 | 36 => 266 | 35 => 265 | 41 => 270 | 5 => 5 | 9 => 9 | 53 => 283 | 57 => 287 | 63 => 294 | 64 => 295 | n => n, fun | n => n⟩
theorem Tryz.sort150 : Go.Proofs.SlLaysM.n6 Tryz.prog Tryz.sort150_ren := {
  mixed := by kernel_rfl
  f6 := ⟨Tryz.f150.name, by decide, Tryz.func150.trans (congrArg some (by kernel_rfl))⟩
  f8 := Tryz.func177.trans (congrArg some (by kernel_rfl))
  f9 := ⟨Tryz.f176.name, by decide, Tryz.func176.trans (congrArg some (by kernel_rfl))⟩
  f19 := Tryz.func192.trans (congrArg some (by kernel_rfl))
  f20 := Tryz.func193.trans (congrArg some (by kernel_rfl))
  f21 := ⟨Tryz.f183.name, by decide, Tryz.func183.trans (congrArg some (by kernel_rfl))⟩
  f22 := ⟨Tryz.f184.name, by decide, Tryz.func184.trans (congrArg some (by kernel_rfl))⟩
  f23 := ⟨Tryz.f185.name, by decide, Tryz.func185.trans (congrArg some (by kernel_rfl))⟩
  f24 := ⟨Tryz.f186.name, by decide, Tryz.func186.trans (congrArg some (by kernel_rfl))⟩
  f25 := ⟨Tryz.f187.name, by decide, Tryz.func187.trans (congrArg some (by kernel_rfl))⟩
  f26 := ⟨Tryz.f188.name, by decide, Tryz.func188.trans (congrArg some (by kernel_rfl))⟩
  f27 := ⟨Tryz.f189.name, by decide, Tryz.func189.trans (congrArg some (by kernel_rfl))⟩
  f28 := ⟨Tryz.f190.name, by decide, Tryz.func190.trans (congrArg some (by kernel_rfl))⟩
  f29 := ⟨Tryz.f191.name, by decide, Tryz.func191.trans (congrArg some (by kernel_rfl))⟩
  f31 := Tryz.func208.trans (congrArg some (by kernel_rfl))
  f32 := Tryz.func209.trans (congrArg some (by kernel_rfl))
  f36 := ⟨Tryz.f207.name, by decide, Tryz.func207.trans (congrArg some (by kernel_rfl))⟩
  f37 := ⟨Tryz.f210.name, by decide, Tryz.func210.trans (congrArg some (by kernel_rfl))⟩
  f38 := ⟨Tryz.f211.name, by decide, Tryz.func211.trans (congrArg some (by kernel_rfl))⟩
  f39 := ⟨Tryz.f212.name, by decide, Tryz.func212.trans (congrArg some (by kernel_rfl))⟩
  f41 := ⟨Tryz.f221.name, by decide, Tryz.func221.trans (congrArg some (by kernel_rfl))⟩
  t0 := Tryz.underlying0
  a0 := Tryz.isAgg0
  z0 := Tryz.sizeOf0
  v0 := Tryz.zeroValue0
  t3 := Tryz.underlying3
  a3 := Tryz.isAgg3
  z3 := Tryz.sizeOf3
  v3 := Tryz.zeroValue3
  t4 := Tryz.underlying4
  a4 := Tryz.isAgg4
  z4 := Tryz.sizeOf4
  v4 := Tryz.zeroValue4
  t5 := Tryz.underlying5
  a5 := Tryz.isAgg5
  z5 := Tryz.sizeOf5
  v5 := Tryz.zeroValue5
  t9 := Tryz.underlying9
  a9 := Tryz.isAgg9
  z9 := Tryz.sizeOf9
  v9 := Tryz.zeroValue9
  t26 := Tryz.underlying48
  a26 := Tryz.isAgg48
  z26 := Tryz.sizeOf48
  v26 := Tryz.zeroValue48
  t27 := Tryz.underlying48
  a27 := Tryz.isAgg48
  z27 := Tryz.sizeOf48
  v27 := Tryz.zeroValue48
  t29 := Tryz.underlying9
  a29 := Tryz.isAgg9
  z29 := Tryz.sizeOf9
  v29 := Tryz.zeroValue9
  t32 := Tryz.underlying182
  a32 := Tryz.isAgg182
  z32 := Tryz.sizeOf182
  v32 := Tryz.zeroValue182
  t35 := Tryz.underlying265
  a35 := Tryz.isAgg265
  z35 := Tryz.sizeOf265
  v35 := Tryz.zeroValue265
  t36 := Tryz.underlying266
  a36 := Tryz.isAgg266
  z36 := Tryz.sizeOf266
  v36 := Tryz.zeroValue266
  t41 := Tryz.underlying270
  a41 := Tryz.isAgg270
  z41 := Tryz.sizeOf270
  v41 := Tryz.zeroValue270
  t44 := Tryz.underlying184
  a44 := Tryz.isAgg184
  z44 := Tryz.sizeOf184
  v44 := Tryz.zeroValue184
  t46 := Tryz.underlying112
  a46 := Tryz.isAgg112
  z46 := Tryz.sizeOf112
  v46 := Tryz.zeroValue112
  t53 := Tryz.underlying283
  a53 := Tryz.isAgg283
  z53 := Tryz.sizeOf283
  v53 := Tryz.zeroValue283
  t57 := Tryz.underlying287
  a57 := Tryz.isAgg287
  z57 := Tryz.sizeOf287
  v57 := Tryz.zeroValue287
  t63 := Tryz.underlying294
  a63 := Tryz.isAgg294
  z63 := Tryz.sizeOf294
  v63 := Tryz.zeroValue294
  t64 := Tryz.underlying295
  a64 := Tryz.isAgg295
  z64 := Tryz.sizeOf295
  v64 := Tryz.zeroValue295 }
theorem Tryz.sorts102 (m : Nat) : AnyZ.SortsIn Tryz.prog Tryz.sorted102_ren Fence.wide m :=
  ⟨fun blk off cap ss W hH hblk hsz => callsIn_wide.2 (AnyM.slices_Sort_string Tryz.sort150 blk off cap ss W hH hblk hsz),
   fun p cap W => callsIn_wide.2 (AnyM.slices_Sort_string_none Tryz.sort150 p cap W)⟩

theorem Tryz.maps_Keys_104 (mb : Option Nat) (W : World) : CallsIn Fence.wide 5 Tryz.prog 104 #[.map mb] W fun e w' => e = .returned (.func (.func 152) #[] #[.pointer (some ⟨W.heap.size, 0, none⟩)]) ∧ w' = W.alloc (.cells #[.map mb] 142) :=
  AnyZ.keys_in Tryz.keys104 Fence.wide 5 trivial rfl mb W

set_option maxHeartbeats 1000000 in
theorem Tryz.slices_Sorted_keys_102_104 {H : Type} (b nn : Nat) (D0 : DataW H) (R : Value → Option (DataW H × List MemPlace)) (w : World) (hown : w.ownsMap Tryz.prog 9 R b nn D0) (hmax : Maps.size D0 ≤ maxLen) (hbytes : Maps.size D0 * 16 ≤ 140737488355328) :
    CallsIn Fence.wide 5 Tryz.prog 102 #[.func (.func 152) #[] #[.pointer (some ⟨w.heap.size, 0, none⟩)]] (w.alloc (.cells #[.map (some b)] 142)) fun e w' => ∃ (v : Value) (ss : List (List UInt8)), e = .returned v ∧ ss.Perm (strKeys D0) ∧
      w'.ownsRow (w.alloc (.cells #[.map (some b)] 142)).heap.size 9 1 v ss.length ((ss.mergeSort (fun x y => decide (x ≤ y))).map encStr) ∧ (v = .slice none 0 0 ↔ ss = []) ∧ Below (w.alloc (.cells #[.map (some b)] 142)).heap.size (w.alloc (.cells #[.map (some b)] 142)) w' := by
  have hbl := hown.lt
  have hseq : SeqGives Fence.wide 2 Tryz.prog 152 #[.pointer (some ⟨w.heap.size, 0, none⟩)] encStr (fun ss => ss.Perm (strKeys D0)) (Maps.size D0) (w.alloc (.cells #[.map (some b)] 142)) :=
    AnyZ.keys_gives (ρ := Tryz.keys104_ren) { Tryz.keys104 with } Fence.wide _ trivial rfl (by omega) w.heap.size b nn D0 _ (by simp) (by simp) (by
      obtain ⟨es, clock, hb, Ft, hs, hD⟩ := hown
      exact ⟨es, clock, (Below.heap_alloc _ _ b hbl).trans hb, Ft, hs, hD⟩)
  exact AnyZ.sorted_in Tryz.sorted102 Fence.wide 5 trivial trivial trivial trivial rfl (by omega) (Tryz.sorts102 _) (enters_of Tryz.func150 (by kernel_rfl) rfl) 152 #[.pointer (some ⟨w.heap.size, 0, none⟩)] trivial (enters_of Tryz.func152 (by kernel_rfl) rfl) _ _ hmax hbytes _ hseq

set_option maxHeartbeats 1000000 in
theorem Tryz.slices_Sorted_keys_nil_102_104 (w : World) :
    CallsIn Fence.wide 5 Tryz.prog 102 #[.func (.func 152) #[] #[.pointer (some ⟨w.heap.size, 0, none⟩)]] (w.alloc (.cells #[.map none] 142)) fun e w' => ∃ (v : Value) (ss : List (List UInt8)), e = .returned v ∧ ss = [] ∧
      w'.ownsRow (w.alloc (.cells #[.map none] 142)).heap.size 9 1 v ss.length ((ss.mergeSort (fun x y => decide (x ≤ y))).map encStr) ∧ (v = .slice none 0 0 ↔ ss = []) ∧ Below (w.alloc (.cells #[.map none] 142)).heap.size (w.alloc (.cells #[.map none] 142)) w' := by
  have hseq : SeqGives Fence.wide 2 Tryz.prog 152 #[.pointer (some ⟨w.heap.size, 0, none⟩)] encStr (fun ss : List (List UInt8) => ss = []) 0 (w.alloc (.cells #[.map none] 142)) :=
    AnyZ.keys_gives_nil (ρ := Tryz.keys104_ren) { Tryz.keys104 with } Fence.wide _ trivial rfl w.heap.size _ (by simp) (by simp)
  exact AnyZ.sorted_in Tryz.sorted102 Fence.wide 5 trivial trivial trivial trivial rfl (by omega) (Tryz.sorts102 _) (enters_of Tryz.func150 (by kernel_rfl) rfl) 152 #[.pointer (some ⟨w.heap.size, 0, none⟩)] trivial (enters_of Tryz.func152 (by kernel_rfl) rfl) _ 0 (Nat.zero_le _) (by omega) _ hseq


end Go.Proofs
namespace Go.Ev
open Go.Proofs Go.RowKit Go.Maps Go.Sort Go.Shelf
def toB (s : List Nat) : List UInt8 := s.map UInt8.ofNat
theorem toB_inj {s t : List Nat} (hs : ∀ x ∈ s, x < 256) (ht : ∀ x ∈ t, x < 256) (h : toB s = toB t) : s = t := map_ofNat_inj hs ht h
theorem encStr_toB (s : List Nat) : encStr (toB s) = bytesV s := rfl
theorem llt_iff : ∀ {s t : List Nat}, (∀ x ∈ s, x < 256) → (∀ x ∈ t, x < 256) → (llt s t = true ↔ toB s < toB t)
  | s, [], _, _ => by rw [llt_nil_right]; simp [toB]
  | [], y :: t, _, _ => by rw [llt_nil_cons]; simp [toB]
  | x :: s, y :: t, hs, ht => by
    rw [llt_cons]
    have hx := hs x (by simp)
    have hy := ht y (by simp)
    have ih := llt_iff (s := s) (t := t) (fun z hz => hs z (by simp [hz])) (fun z hz => ht z (by simp [hz]))
    show _ ↔ (UInt8.ofNat x :: toB s) < (UInt8.ofNat y :: toB t)
    rw [List.cons_lt_cons_iff]
    have e1 : (UInt8.ofNat x < UInt8.ofNat y) ↔ x < y := by
      rw [UInt8.lt_iff_toNat_lt]
      simp only [UInt8.toNat_ofNat']
      omega
    have e2 : (UInt8.ofNat x = UInt8.ofNat y) ↔ x = y := by
      constructor
      · intro h
        have := congrArg UInt8.toNat h
        simp only [UInt8.toNat_ofNat'] at this
        omega
      · intro h; rw [h]
    rw [e1, e2]
    cases h1 : Nat.blt x y with
    | true => have := blt_iff.1 h1; simp [this]
    | false =>
      have h1' : ¬ x < y := Nat.not_lt.2 (blt_false.1 h1)
      cases h2 : Nat.beq x y with
      | true => have := eq_of_beq h2; simp [this, ih]
      | false => have := ne_of_beq h2; simp [this, h1']
theorem insS_nil (k : List Nat) : insS k [] = [k] := rfl
theorem insS_cons (k x : List Nat) (l : List (List Nat)) : insS k (x :: l) = iteB (llt x k) (x :: insS k l) (k :: x :: l) := rfl
theorem sortS_cons (x : List Nat) (l : List (List Nat)) : sortS (x :: l) = insS x (sortS l) := rfl
theorem insS_perm (k : List Nat) : ∀ l, (insS k l).Perm (k :: l)
  | [] => by rw [insS_nil]
  | x :: l => by
    rw [insS_cons]
    cases llt x k with
    | true => exact ((insS_perm k l).cons x).trans (.swap k x l)
    | false => exact .refl _
theorem sortS_perm : ∀ l, (sortS l).Perm l
  | [] => .refl _
  | x :: l => by rw [sortS_cons]; exact (insS_perm x _).trans ((sortS_perm l).cons x)
def Byt (l : List (List Nat)) : Prop := ∀ s ∈ l, ∀ x ∈ s, x < 256
theorem insS_sorted {k : List Nat} (hk : ∀ x ∈ k, x < 256) : ∀ {l : List (List Nat)}, Byt l → (l.map toB).Pairwise (fun a b => a ≤ b) → ((insS k l).map toB).Pairwise (fun a b => a ≤ b)
  | [], _, _ => by rw [insS_nil]; simp
  | x :: l, hb, h => by
    rw [insS_cons]
    have hx : ∀ z ∈ x, z < 256 := hb x (by simp)
    rw [List.map_cons, List.pairwise_cons] at h
    have ih := insS_sorted hk (l := l) (fun s hs => hb s (by simp [hs])) h.2
    have hl := llt_iff hx hk
    cases hc : llt x k with
    | true =>
      have hlt : toB x < toB k := hl.1 hc
      rw [iteB_t, List.map_cons, List.pairwise_cons]
      refine ⟨fun b hbm => ?_, ih⟩
      obtain ⟨s, hs, rfl⟩ := List.mem_map.1 hbm
      rcases List.mem_cons.1 ((insS_perm k l).mem_iff.1 hs) with rfl | hs
      · exact List.le_of_lt hlt
      · exact h.1 _ (List.mem_map_of_mem hs)
    | false =>
      have hle : toB k ≤ toB x := by
        rw [← List.not_lt]
        intro h'
        rw [← hl, hc] at h'; cases h'
      rw [iteB_f, List.map_cons, List.map_cons, List.pairwise_cons, List.pairwise_cons]
      refine ⟨fun b hbm => ?_, h⟩
      rcases List.mem_cons.1 hbm with rfl | hbm
      · exact hle
      · exact List.le_trans hle (h.1 b hbm)
theorem sortS_sorted : ∀ {l : List (List Nat)}, Byt l → ((sortS l).map toB).Pairwise (fun a b => a ≤ b)
  | [], _ => .nil
  | x :: l, hb => by
    rw [sortS_cons]
    exact insS_sorted (hb x (by simp)) (fun s hs => hb s (by simp [(sortS_perm l).mem_iff.1 hs])) (sortS_sorted fun s hs => hb s (by simp [hs]))
theorem sortS_merge {l : List (List Nat)} (hb : Byt l) {ss : List (List UInt8)} (hp : ss.Perm (l.map toB)) : ss.mergeSort (fun x y => decide (x ≤ y)) = (sortS l).map toB := by
  have h1 : ss.Perm ((sortS l).map toB) := hp.trans ((sortS_perm l).map toB).symm
  rw [show ss.mergeSort (fun x y => decide (x ≤ y)) = ss.mergeSort leB from rfl, mergeSort_of_perm h1]
  have tr : ∀ a b c : List UInt8, leB a b = true → leB b c = true → leB a c = true := fun a b c h1 h2 => by simp only [leB, decide_eq_true_eq] at *; exact List.le_trans h1 h2
  have to : ∀ a b : List UInt8, (leB a b || leB b a) = true := fun a b => by simp only [leB, Bool.or_eq_true, decide_eq_true_eq]; exact List.le_total a b
  refine List.Perm.eq_of_pairwise (le := fun a b => leB a b = true) (fun a b _ _ h1 h2 => ?_) (List.pairwise_mergeSort tr to _) ((sortS_sorted hb).imp fun {a b} h => by simpa [leB] using h) (List.mergeSort_perm _ leB)
  simp only [leB, decide_eq_true_eq] at h1 h2
  exact List.le_antisymm h1 h2
theorem lnodupL_cons (x : List Nat) (l : List (List Nat)) : lnodupL (x :: l) = andB (lall (fun y => notB (lbeq x y)) l) (lnodupL l) := rfl
theorem lnodupL_iff : ∀ {l : List (List Nat)}, lnodupL l = true → l.Nodup
  | [], _ => .nil
  | x :: l, h => by
    rw [lnodupL_cons] at h
    simp only [andB_eq, Bool.and_eq_true, lall_eq, List.all_eq_true, notB_eq, Bool.not_eq_true', lbeq_eq, decide_eq_false_iff_not] at h
    exact List.nodup_cons.2 ⟨fun hm => h.1 x hm rfl, lnodupL_iff h.2⟩
theorem lnodup_cons (x : Nat) (l : List Nat) : lnodup (x :: l) = andB (notB (lmem x l)) (lnodup l) := rfl
theorem lnodup_iff : ∀ {l : List Nat}, lnodup l = true → l.Nodup
  | [], _ => .nil
  | x :: l, h => by
    rw [lnodup_cons] at h
    simp only [andB_eq, Bool.and_eq_true, notB_eq, Bool.not_eq_true', lmem_eq] at h
    exact List.nodup_cons.2 ⟨fun hm => (by have h1 := h.1; rw [List.contains_iff_mem.2 hm] at h1; cases h1), lnodup_iff h.2⟩
theorem keys_of : ∀ {es : List Ent} {ks : List (List Nat)}, lmapO (fun e => dStr e.key) es = some ks → es.map Ent.key = ks.map AV.str
  | [], ks, h => by rw [lmapO_nil] at h; cases h; rfl
  | e :: es, ks, h => by
    rw [lmapO_cons] at h
    cases h1 : dStr e.key with
    | none => simp [h1] at h
    | some k =>
      cases h2 : lmapO (fun e => dStr e.key) es with
      | none => simp [h1, h2] at h
      | some l =>
        simp only [h1, h2, Option.some.injEq] at h
        subst h
        rw [List.map_cons, List.map_cons, keys_of h2, dStr_some.1 h1]
/-- slices.Sorted at a map's keys, in whatever world. -/
theorem sorted_any {H : Type} (Bm b nn : Nat) (D0 : DataW H) (R : Value → Option (DataW H × List MemPlace)) (w : World) (hBm : Bm < w.heap.size) (hm : w.cell? ⟨Bm, 0, none⟩ = some (.map (some b))) (hown : w.ownsMap Tryz.prog 9 R b nn D0) (hmax : Maps.size D0 ≤ maxLen) (hbytes : Maps.size D0 * 16 ≤ 140737488355328) :
    CallsIn Fence.wide 5 Tryz.prog 102 #[.func (.func 152) #[] #[.pointer (some ⟨Bm, 0, none⟩)]] w fun e w' => ∃ (v : Value) (ss : List (List UInt8)), e = .returned v ∧ ss.Perm (strKeys D0) ∧
      w'.ownsRow w.heap.size 9 1 v ss.length ((ss.mergeSort (fun x y => decide (x ≤ y))).map encStr) ∧ (v = .slice none 0 0 ↔ ss = []) ∧ Below w.heap.size w w' := by
  have hseq : SeqGives Fence.wide 2 Tryz.prog 152 #[.pointer (some ⟨Bm, 0, none⟩)] encStr (fun ss => ss.Perm (strKeys D0)) (Maps.size D0) w :=
    AnyZ.keys_gives (ρ := Tryz.keys104_ren) { Tryz.keys104 with } Fence.wide _ trivial rfl (by omega) Bm b nn D0 _ hBm hm hown
  exact AnyZ.sorted_in Tryz.sorted102 Fence.wide 5 trivial trivial trivial trivial rfl (by omega) (Tryz.sorts102 _) (enters_of Tryz.func150 (by kernel_rfl) rfl) 152 #[.pointer (some ⟨Bm, 0, none⟩)] trivial (enters_of Tryz.func152 (by kernel_rfl) rfl) _ _ hmax hbytes _ hseq
theorem sorted_any_nil (Bm : Nat) (w : World) (hBm : Bm < w.heap.size) (hm : w.cell? ⟨Bm, 0, none⟩ = some (.map none)) :
    CallsIn Fence.wide 5 Tryz.prog 102 #[.func (.func 152) #[] #[.pointer (some ⟨Bm, 0, none⟩)]] w fun e w' => ∃ (v : Value) (ss : List (List UInt8)), e = .returned v ∧ ss = [] ∧
      w'.ownsRow w.heap.size 9 1 v ss.length ((ss.mergeSort (fun x y => decide (x ≤ y))).map encStr) ∧ (v = .slice none 0 0 ↔ ss = []) ∧ Below w.heap.size w w' := by
  have hseq : SeqGives Fence.wide 2 Tryz.prog 152 #[.pointer (some ⟨Bm, 0, none⟩)] encStr (fun ss : List (List UInt8) => ss = []) 0 w :=
    AnyZ.keys_gives_nil (ρ := Tryz.keys104_ren) { Tryz.keys104 with } Fence.wide _ trivial rfl Bm _ hBm hm
  exact AnyZ.sorted_in Tryz.sorted102 Fence.wide 5 trivial trivial trivial trivial rfl (by omega) (Tryz.sorts102 _) (enters_of Tryz.func150 (by kernel_rfl) rfl) 152 #[.pointer (some ⟨Bm, 0, none⟩)] trivial (enters_of Tryz.func152 (by kernel_rfl) rfl) _ 0 (Nat.zero_le _) (by omega) _ hseq
theorem und9 : Tryz.prog.underlying 9 = some .string := by kernel_rfl
theorem key_read {s : List Nat} (hl : s.length ≤ maxLen) : keyOf Tryz.prog 9 (bytesV s) = some (.string (toB s)) := by
  unfold keyOf
  rw [und9]
  show mapKey Tryz.prog 9 (bytesV s) = _
  unfold mapKey bytesV
  rw [und9]
  show (if (ByteArray.mk (s.map UInt8.ofNat).toArray).size ≤ maxLen then some (Lit.string (s.map UInt8.ofNat).toArray.toList) else none) = _
  rw [if_pos (by simp [ByteArray.size]; exact hl)]; rfl
/-- What the two contracts leave, in the evaluator's words. -/
theorem sorted_done {E : Env} {S : AW} {w w' : World} {ks : List (List Nat)} {v : Value} (hS : Sim E S w) (hb : Byt ks) {ss : List (List UInt8)} (hp : ss.Perm (ks.map toB)) (hrow : w'.ownsRow w.heap.size 9 1 v ss.length ((ss.mergeSort (fun x y => decide (x ≤ y))).map encStr))
    (hnil : v = .slice none 0 0 ↔ ss = []) (hbel : Below w.heap.size w w') : CPost E S w (if ks = [] then .nsl else .sl S.next 0 (llen ks) (.rest 0)) (if ks = [] then S else S.add (.cells 9 (lmap (fun k => (1, .str k)) (sortS ks)) (some 1))) (.returned v) w' := by
  by_cases hk : ks = []
  · subst hk
    have : ss = [] := List.eq_nil_of_length_eq_zero (by rw [hp.length_eq]; rfl)
    obtain rfl := hnil.2 this
    rw [if_pos rfl, if_pos rfl]
    obtain ⟨h1, h2⟩ := hS.below hbel
    exact ⟨_, E, rfl, by simp [VR], h1, h2 _⟩
  · rw [if_neg hk, if_neg hk]
    have hlen : ss.length = ks.length := by rw [hp.length_eq, List.length_map]
    have hne : ss ≠ [] := fun h => hk (List.eq_nil_of_length_eq_zero (by rw [← hlen, h]; rfl))
    rw [sortS_merge hb hp] at hrow
    obtain ⟨_, ⟨h1, h2⟩ | ⟨g, cap, cur, rfl, hbase, hg, hle, hcap, hsz, htake⟩⟩ := hrow
    · exact absurd (List.eq_nil_of_length_eq_zero h2) hne
    · have hE := hS.new S.next (Nat.le_refl _)
      have hF : Fresh E w S.next (.cells 9 (lmap (fun k => (1, .str k)) (sortS ks)) (some 1)) ⟨g, 0, cap⟩ w' := by
        refine ⟨hbel.os, hbel.tape, hbel.output, hbel.size, hbel.block, ?_, fun _ => hbase⟩
        refine ⟨[], cur.toList.take (ss.length * 1), cur.toList.drop (ss.length * 1), (0, 0), ?_, rfl, ?_, .inl rfl, rfl, ?_⟩
        · rw [hg, List.nil_append, List.take_append_drop]
        · rw [htake, lmap_eq]
          have hfl : ∀ l : List (List Nat), rflat (l.map fun k => (1, AV.str k)) = l.map AV.str := by
            intro l
            induction l with
            | nil => rfl
            | cons x l ih => rw [List.map_cons, rflat_cons, ih]; rfl
          rw [hfl]
          refine ⟨by simp, fun i a u ha hu => ?_⟩
          rw [List.getElem?_map] at ha hu
          rw [List.getElem?_map] at hu
          cases hs : (sortS ks)[i]? with
          | none => rw [hs] at ha; cases ha
          | some s =>
            rw [hs] at ha hu
            cases ha; cases hu
            refine ⟨?_, trivial⟩
            simp only [VR]
            exact ⟨rfl, hb s ((sortS_perm ks).mem_iff.1 (List.mem_of_getElem? hs))⟩
        · rw [List.take_append_drop, Array.length_toList, hsz]; exact Nat.le_refl _
      obtain ⟨q1, q2⟩ := hF.sim hS hE (n := Nat.succ S.next) (Nat.le_succ _) (Nat.lt_succ_self _) (k := S.next) (Nat.le_refl _)
      refine ⟨_, _, rfl, ?_, q1, q2⟩
      simp only [VR]
      exact ⟨⟨g, 0, cap⟩, Env.put_same _ _ _, by rw [llen_eq, ← hlen]; exact hle, by rw [llen_eq, ← hlen]; simp⟩
theorem er_keys {E : Env} {es : List Ent} {ms : List MapEntry} {ks : List (List Nat)} (he : ER E es ms) (hk : es.map Ent.key = ks.map AV.str) : ms.map MapEntry.key = ks.map bytesV ∧ Byt ks := by
  have hl : es.length = ks.length := by have := congrArg List.length hk; simpa using this
  have at_ : ∀ (i : Nat) (e : Ent) (k : List Nat), es[i]? = some e → ks[i]? = some k → e.key = .str k := fun i e k h1 h2 => by
    have := congrArg (fun l : List AV => l[i]?) hk
    simp only [List.getElem?_map, h1, h2, Option.map_some, Option.some.injEq] at this
    exact this
  constructor
  · apply List.ext_getElem?
    intro i
    rw [List.getElem?_map, List.getElem?_map]
    cases hm : ms[i]? with
    | none =>
      have : ms.length ≤ i := by simpa using hm
      have : ks[i]? = none := by simp; rw [← hl, he.1]; exact this
      rw [this]; rfl
    | some m =>
      have hi : i < ms.length := (List.getElem?_eq_some_iff.1 hm).1
      have h1 : es[i]? = some (es[i]'(by rw [he.1]; exact hi)) := by simp [he.1, hi]
      have h2 : ks[i]? = some (ks[i]'(by rw [← hl, he.1]; exact hi)) := by simp [← hl, he.1, hi]
      have h3 := (he.2 i _ m h1 hm).1
      rw [at_ i _ _ h1 h2] at h3
      simp only [VR] at h3
      rw [h2, Option.map_some, Option.map_some, h3.1]
  · intro s hs
    obtain ⟨i, hi, rfl⟩ := List.getElem_of_mem hs
    have h1 : es[i]? = some (es[i]'(by rw [hl]; exact hi)) := by simp [hl, hi]
    have hm : ms[i]? = some (ms[i]'(by rw [← he.1, hl]; exact hi)) := by simp [← he.1, hl, hi]
    have h3 := (he.2 i _ _ h1 hm).1
    rw [at_ i _ ks[i] h1 (by simp [hi])] at h3
    simp only [VR] at h3
    exact h3.2
/-- What of an interpreter's tables the prims need. -/
structure Same0 (C : Cx) : Prop where
  P : C.P = Tryz.prog
theorem callR_of {C : Cx} (hC : C.P = Tryz.prog) {f : FuncId} {fn : Func} {c : Code} (hf : Tryz.prog.funcs[f]? = some fn) (hn : (fn.name == "runtime.NumGoroutine") = false) (hb : fn.body = some c) {vs : Array Value} {w : World} {E : Env} {S S' : AW} {v : AV} (h : ∀ n, CallsIn Fence.wide n Tryz.prog f vs w (CPost E S w v S')) : CallR C f vs w E S v S' := by
  refine .inl ⟨?_, fun n => by rw [hC]; exact h n⟩
  unfold callFunc
  simp only [Sem.run_bind, run_program, Result.andThen_ok, hC, hf, hn, Bool.false_eq_true, if_false, hb, Option.isNone_some, Sem.run_pure]
theorem run102 {args : Array Value} {w : World} : (callFunc 102 args).run Tryz.prog w = .ok (.enter 102 args) w := run_enter sn0_ok (show sn0.fns.get 102 = some Tryz.f102 by kernel_rfl) rfl args w
def isK (k : Nat) : Bool := Nat.beq k 152
set_option maxRecDepth 100000 in
theorem sorted_prim {C : Cx} (hC : C.P = Tryz.prog) {args : List AV} {S S' : AW} {v' : AV} {E : Env} {w : World} {vs : List Value} (h : sortedP 9 isK args S = some (v', S')) (hS : Sim E S w) (ha : LR E args vs) : CallR C 102 vs.toArray w E S v' S' := by
  simp only [sortedP, ob_some, tst_some] at h
  obtain ⟨a, h1, q, h2, h3, h4, p, h5, pp, h6, h7, o, h8, r, h9, m, h10, h11⟩ := h
  rw [one1_some] at h1; subst h1
  rw [dFn_some] at h2; subst h2
  rw [one1_some] at h5
  rw [isEmpty_iff] at h4
  rw [dPtr_some] at h6
  subst h6
  have h3 := eq_of_beq h3
  have h7 := eq_of_beq h7
  match vs, ha with
  | [x], ha =>
    have hx := ha.2 0 _ x rfl rfl
    rw [h3, h4, h5] at hx
    simp only [VR, VRL] at hx
    obtain ⟨xs, ys, rfl, rfl, y, r', rfl, ⟨l, hl, rfl⟩, rfl⟩ := hx
    rw [dRow_some] at h9
    subst h9
    obtain ⟨l', hl', pre, mid, post, fr, hb, hpre, hcr, _, hop⟩ := hS.obj _ _ h8
    rw [hl] at hl'; cases hl'
    have hp0 : pre = [] := by cases hq : r.op with
      | none => rw [hq] at hop; exact hop.1
      | some z => rw [hq] at hop; exact hop.1
    subst hp0
    have hoff : l.off = 0 := hpre.symm
    have hlt : l.blk < w.heap.size := (Array.getElem?_eq_some_iff.1 hb).1
    rw [rget_eq] at h10
    obtain ⟨u, hu, hmu, _⟩ := hcr.get h10
    have hcell : w.cell? ⟨l.blk, 0, none⟩ = some u := by
      simp only [World.cell?, hb, List.nil_append, Option.isSome_none, Bool.false_eq_true, if_false, List.getElem?_toArray]
      rw [List.getElem?_append_left (List.getElem?_eq_some_iff.1 hu).1]
      exact hu
    have hargs : (#[Value.func (.func 152) #[] #[.pointer (some ⟨l.blk, 0, none⟩)]] : Array Value) = [Value.func (.func 152) [].toArray [Value.pointer (some ⟨l.blk, l.off + pp.2, none⟩)].toArray].toArray := by
      rw [hoff, h7]
    refine .inl ⟨by rw [hC]; exact run102, fun n => ?_⟩
    rw [hC, ← hargs]
    refine (callsIn_wide (n := n)).2 ?_
    unfold sortedM at h11
    cases hm : dMap m with
    | none =>
      rw [hm, oel_none, tst_some] at h11
      obtain ⟨hn, h11⟩ := h11
      cases h11
      have : m = .nmap := by cases m <;> simp [isNmap] at hn; rfl
      subst this
      simp only [VR] at hmu
      subst hmu
      refine ((callsIn_wide (n := 5)).1 (sorted_any_nil l.blk w hlt hcell)).mono ?_
      rintro e w' ⟨v, ss, rfl, rfl, hrow, hnil, hbel⟩
      have := sorted_done (ks := []) hS (fun s hs => by cases hs) (.refl _) hrow hnil hbel
      simpa using this
    | some i =>
      rw [hm, oel_some_eq] at h11
      rw [dMap_some] at hm
      subst hm
      simp only [ob_some, dMp_some, tst_some] at h11
      obtain ⟨om, h12, mp, rfl, ks, h13, h14, h15⟩ := h11
      obtain ⟨k, hk, ms, hbm, he⟩ := hS.obj _ _ h12
      simp only [VR] at hmu
      obtain ⟨k', hk', rfl⟩ := hmu
      rw [hk] at hk'; cases hk'
      have hkey := keys_of h13
      obtain ⟨hk1, hbyt⟩ := er_keys he hkey
      have hlen : ms.length = ks.length := by have := congrArg List.length hk1; simpa using this
      simp only [mapOk, andB_eq, Bool.and_eq_true, lall_eq, List.all_eq_true, ble_iff, blt_iff, llen_eq, lmap_eq] at h14
      obtain ⟨g1, g2, g3, g4, g5⟩ := h14
      have hml : 65536 ≤ maxLen := by decide
      have hreads : ∀ y ∈ ms, ∃ s, s ∈ ks ∧ y.key = bytesV s := fun y hy => by
        have : y.key ∈ ms.map MapEntry.key := List.mem_map_of_mem hy
        rw [hk1] at this
        obtain ⟨s, hs, e⟩ := List.mem_map.1 this
        exact ⟨s, hs, e.symm⟩
      let R : Value → Option (DataW Unit × List MemPlace) := fun _ => some (.nil, [])
      have hrd : ∀ y ∈ ms, ∀ s, s ∈ ks → y.key = bytesV s → WideElems.rd Tryz.prog 9 R y = some (.string (toB s), .nil) := fun y hy s hs e => by
        unfold WideElems.rd
        rw [e, key_read (Nat.le_trans (g4 s hs) (by decide))]; rfl
      have hstamp : MapKept.Stamped ms.toArray mp.clock := by
        refine ⟨fun y hy => ?_, ?_, ?_⟩
        · exact ER.bornAll he (p := fun b => b < mp.clock) g1 y (by simpa using hy)
        · have e : ms.map (·.born) = mp.es.map Ent.born := by
            apply List.ext_getElem?
            intro j
            rw [List.getElem?_map, List.getElem?_map]
            cases hj : ms[j]? with
            | none =>
              have : mp.es[j]? = none := by simp only [List.getElem?_eq_none_iff] at hj ⊢; rw [he.1]; exact hj
              rw [this]; rfl
            | some y =>
              have hi : j < mp.es.length := by rw [he.1]; exact (List.getElem?_eq_some_iff.1 hj).1
              rw [List.getElem?_eq_getElem hi, Option.map_some, Option.map_some, (he.2 j mp.es[j] y (by simp [hi]) hj).2.2]
          show (ms.toArray.toList.map (·.born)).Nodup
          rw [List.toList_toArray, e]; exact lnodup_iff g2
        · show (ms.toArray.toList.map MapEntry.key).Nodup
          rw [List.toList_toArray, hk1]
          have := lnodupL_iff g3
          refine List.pairwise_map.2 (this.imp_of_mem fun {a b} ha hb hne e => hne ?_)
          have : toB a = toB b := encStr_inj (show encStr (toB a) = encStr (toB b) from e)
          exact toB_inj (hbyt a ha) (hbyt b hb) this
      have hfit : WideElems.Fit Tryz.prog 9 R ms.toArray mp.clock := ⟨by simp; omega, hstamp, fun y hy => by
        obtain ⟨s, hs, e⟩ := hreads y (by simpa using hy)
        exact ⟨_, hrd y (by simpa using hy) s hs e⟩⟩
      have hown : w.ownsMap Tryz.prog 9 R k.blk ms.length (.map ((ms.toArray.toList.map (WideElems.rg Tryz.prog 9 R)).foldr DataW.insert [])) := ⟨ms.toArray, mp.clock, hbm, hfit, by simp, rfl⟩
      have hsz : Maps.size (H := Unit) (.map ((ms.toArray.toList.map (WideElems.rg Tryz.prog 9 R)).foldr DataW.insert [])) = ms.length := by
        rw [Maps.size_eq, length_sorted]; simp
      refine ((callsIn_wide (n := 5)).1 (sorted_any l.blk k.blk ms.length _ R w hlt hcell hown (by rw [hsz]; omega) (by rw [hsz]; omega))).mono ?_
      rintro e w' ⟨v, ss, rfl, hp, hrow, hnil, hbel⟩
      have hp2 : ss.Perm (ks.map toB) := by
        refine hp.trans ?_
        show ((((ms.toArray.toList.map (WideElems.rg Tryz.prog 9 R)).foldr DataW.insert [])).map fun p => strOf p.1).Perm _
        refine ((WideShapes.sorted_perm _).map _).trans ?_
        rw [List.toList_toArray, List.map_map]
        have : ms.map ((fun p => strOf p.1) ∘ WideElems.rg Tryz.prog 9 R) = ks.map toB := by
          apply List.ext_getElem?
          intro j
          rw [List.getElem?_map, List.getElem?_map]
          have hj := congrArg (fun l : List Value => l[j]?) hk1
          simp only [List.getElem?_map] at hj
          cases hm : ms[j]? with
          | none =>
            have : ks[j]? = none := by simp only [List.getElem?_eq_none_iff] at hm ⊢; rw [← hlen]; exact hm
            rw [this]; rfl
          | some y =>
            cases hs : ks[j]? with
            | none => rw [hm, hs] at hj; cases hj
            | some s =>
              rw [hm, hs] at hj
              simp only [Option.map_some, Option.some.injEq] at hj
              rw [Option.map_some, Option.map_some]
              have hrg := WideElems.rg_of (hrd y (List.mem_of_getElem? hm) s (List.mem_of_getElem? hs) hj)
              rw [Function.comp_apply, hrg]
              rfl
        rw [this]
      have fin := sorted_done hS hbyt hp2 hrow hnil hbel
      have h16 : v' = (if ks = [] then AV.nsl else .sl S.next 0 (llen ks) (.rest 0)) ∧ S' = (if ks = [] then S else S.add (.cells 9 (lmap (fun k => (1, .str k)) (sortS ks)) (some 1))) := by
        cases ks with
        | nil => injection h15 with h15; injection h15 with e1 e2; exact ⟨e1.symm, e2.symm⟩
        | cons a ks => injection h15 with h15; injection h15 with e1 e2; rw [if_neg (by simp), if_neg (by simp)]; exact ⟨e1.symm, e2.symm⟩
      rw [h16.1, h16.2]
      exact fin
end Go.Ev
