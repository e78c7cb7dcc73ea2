/- The evaluator of Go code: its lists, values and rules. -/
import GoSem.Claims
import Derived.ProofKit
set_option linter.unusedSimpArgs false
set_option linter.unusedVariables false
namespace Go.Ev
inductive T (α : Type) where
  | e
  | n (k : Nat) (v : α) (l r : T α)
section
variable {α β σ : Type}
noncomputable section
def T.getp (t : T α) : Nat → Nat → Option α :=
  T.rec (motive := fun _ => Nat → Nat → Option α) (fun _ _ => none)
    (fun k v _ _ gl gr i p => bif Nat.beq k i then some v else bif Nat.beq (Nat.mod p 2) 0 then gl i (Nat.div p 2) else gr i (Nat.div p 2)) t
def T.setp (t : T α) : Nat → Nat → α → T α :=
  T.rec (motive := fun _ => Nat → Nat → α → T α) (fun i _ v => .n i v .e .e)
    (fun k w l r sl sr i p v => bif Nat.beq k i then .n i v l r else bif Nat.beq (Nat.mod p 2) 0 then .n k w (sl i (Nat.div p 2) v) r else .n k w l (sr i (Nat.div p 2) v)) t
def lget (l : List α) : Nat → Option α :=
  List.rec (motive := fun _ => Nat → Option α) (fun _ => none) (fun x _ ih i => Nat.rec (motive := fun _ => Option α) (some x) (fun j _ => ih j) i) l
def lapp (a b : List α) : List α := List.rec (motive := fun _ => List α) b (fun x _ ih => x :: ih) a
def lmapO (f : α → Option β) (l : List α) : Option (List β) :=
  List.rec (motive := fun _ => Option (List β)) (some []) (fun x _ ih => match f x with
    | none => none
    | some y => match ih with
      | none => none
      | some ys => some (y :: ys)) l
def lfoldO (f : σ → α → Option σ) (l : List α) : σ → Option σ :=
  List.rec (motive := fun _ => σ → Option σ) (fun s => some s) (fun x _ ih s => match f s x with
    | none => none
    | some s' => ih s') l
def lfold (f : σ → α → σ) (l : List α) : σ → σ := List.rec (motive := fun _ => σ → σ) (fun s => s) (fun x _ ih s => ih (f s x)) l
def lall (p : α → Bool) (l : List α) : Bool := List.rec (motive := fun _ => Bool) true (fun x _ ih => bif p x then ih else false) l
def lfind (p : α → Bool) (l : List α) : Option α := List.rec (motive := fun _ => Option α) none (fun x _ ih => bif p x then some x else ih) l
def lfilter (p : α → Bool) (l : List α) : List α := List.rec (motive := fun _ => List α) [] (fun x _ ih => bif p x then x :: ih else ih) l
def llen (l : List α) : Nat := List.rec (motive := fun _ => Nat) 0 (fun _ _ ih => Nat.succ ih) l
def lset (l : List α) : Nat → α → List α :=
  List.rec (motive := fun _ => Nat → α → List α) (fun _ _ => []) (fun x l ih n v => Nat.rec (motive := fun _ => List α) (v :: l) (fun m _ => x :: ih m v) n) l
def lbeq (a : List Nat) : List Nat → Bool :=
  List.rec (motive := fun _ => List Nat → Bool) (fun b => match b with | [] => true | _ :: _ => false)
    (fun x _ ih b => match b with | [] => false | y :: b => bif Nat.beq x y then ih b else false) a
def llt (a : List Nat) : List Nat → Bool :=
  List.rec (motive := fun _ => List Nat → Bool) (fun b => match b with | [] => false | _ :: _ => true)
    (fun x _ ih b => match b with | [] => false | y :: b => bif Nat.blt x y then true else bif Nat.beq x y then ih b else false) a
def ltake (l : List α) : Nat → List α :=
  List.rec (motive := fun _ => Nat → List α) (fun _ => []) (fun x _ ih n => Nat.rec (motive := fun _ => List α) [] (fun m _ => x :: ih m) n) l
def ldrop (l : List α) : Nat → List α :=
  List.rec (motive := fun _ => Nat → List α) (fun _ => []) (fun x l ih n => Nat.rec (motive := fun _ => List α) (x :: l) (fun m _ => ih m) n) l
def lmem (n : Nat) (l : List Nat) : Bool := List.rec (motive := fun _ => Bool) false (fun x _ ih => bif Nat.beq x n then true else ih) l
def lmap (f : α → β) (l : List α) : List β := List.rec (motive := fun _ => List β) [] (fun x _ ih => f x :: ih) l
/- run-length lists -/
def rget (l : List (Nat × α)) : Nat → Option α :=
  List.rec (motive := fun _ => Nat → Option α) (fun _ => none) (fun x _ ih i => bif Nat.blt i x.1 then some x.2 else ih (Nat.sub i x.1)) l
def rlen (l : List (Nat × α)) : Nat := List.rec (motive := fun _ => Nat) 0 (fun x _ ih => Nat.add x.1 ih) l
def rtake (l : List (Nat × α)) : Nat → List (Nat × α) :=
  List.rec (motive := fun _ => Nat → List (Nat × α)) (fun _ => []) (fun x _ ih i => bif Nat.beq i 0 then [] else bif Nat.ble i x.1 then [(i, x.2)] else x :: ih (Nat.sub i x.1)) l
def rdrop (l : List (Nat × α)) : Nat → List (Nat × α) :=
  List.rec (motive := fun _ => Nat → List (Nat × α)) (fun _ => []) (fun x l ih i => bif Nat.beq i 0 then x :: l else bif Nat.blt i x.1 then (Nat.sub x.1 i, x.2) :: l else ih (Nat.sub i x.1)) l
def rrep (rs : List (Nat × α)) (n : Nat) : List (Nat × α) := Nat.rec (motive := fun _ => List (Nat × α)) [] (fun _ ih => lapp rs ih) n
def lrepl (v : α) (tail : List α) (n : Nat) : List α := Nat.rec (motive := fun _ => List α) tail (fun _ ih => v :: ih) n
def rflat (l : List (Nat × α)) : List α := List.rec (motive := fun _ => List α) [] (fun x _ ih => lrepl x.2 ih x.1) l
def ob (x : Option α) (f : α → Option β) : Option β := @Option.rec α (fun _ => Option β) none f x
def oel (d : β) (x : Option α) (f : α → β) : β := @Option.rec α (fun _ => β) d f x
def tst (b : Bool) (x : Option β) : Option β := @Bool.rec (fun _ => Option β) none x b
def iteB (b : Bool) (x y : β) : β := @Bool.rec (fun _ => β) y x b
def andB (a b : Bool) : Bool := @Bool.rec (fun _ => Bool) false b a
def orB (a b : Bool) : Bool := @Bool.rec (fun _ => Bool) b true a
def notB (a : Bool) : Bool := @Bool.rec (fun _ => Bool) true false a
def forceN (m : Nat) (k : Nat → β) : β := @Nat.rec (fun _ => β) (k 0) (fun j _ => k (Nat.succ j)) m
def nrec (z : α) (s : α → α) (n : Nat) : α := Nat.rec (motive := fun _ => α) z (fun _ ih => s ih) n
end

/- what they are -/
theorem T.getp_e (i p : Nat) : (T.e : T α).getp i p = none := rfl
theorem T.getp_n (k : Nat) (v : α) (l r : T α) (i p : Nat) : (T.n k v l r).getp i p = bif Nat.beq k i then some v else bif Nat.beq (Nat.mod p 2) 0 then l.getp i (Nat.div p 2) else r.getp i (Nat.div p 2) := rfl
theorem T.setp_e (i p : Nat) (v : α) : (T.e : T α).setp i p v = .n i v .e .e := rfl
theorem T.setp_n (k : Nat) (w : α) (l r : T α) (i p : Nat) (v : α) : (T.n k w l r).setp i p v = bif Nat.beq k i then .n i v l r else bif Nat.beq (Nat.mod p 2) 0 then .n k w (l.setp i (Nat.div p 2) v) r else .n k w l (r.setp i (Nat.div p 2) v) := rfl
theorem beq_self (n : Nat) : Nat.beq n n = true := Nat.beq_eq ▸ rfl
theorem eq_of_beq {n m : Nat} (h : Nat.beq n m = true) : n = m := Nat.eq_of_beq_eq_true h
theorem ne_of_beq {n m : Nat} (h : Nat.beq n m = false) : n ≠ m := Nat.ne_of_beq_eq_false h
theorem beq_of_ne {n m : Nat} (h : n ≠ m) : Nat.beq n m = false := by
  cases e : Nat.beq n m
  · rfl
  · exact absurd (eq_of_beq e) h
theorem T.getp_setp_same (v : α) (i : Nat) : ∀ (t : T α) (p : Nat), (t.setp i p v).getp i p = some v := by
  intro t
  induction t with
  | e => intro p; simp [T.setp_e, T.getp_n]
  | n k w l r ihl ihr =>
    intro p
    rw [T.setp_n]
    cases h : Nat.beq k i with
    | true => simp [T.getp_n]
    | false =>
      cases h2 : Nat.beq (Nat.mod p 2) 0 with
      | true => simp only [cond_false, cond_true, T.getp_n, h, h2]; exact ihl _
      | false => simp only [cond_false, T.getp_n, h, h2]; exact ihr _
theorem T.getp_setp_other (v : α) {i j : Nat} (hij : j ≠ i) : ∀ (t : T α) (p q : Nat), (t.setp i p v).getp j q = t.getp j q := by
  intro t
  induction t with
  | e => intro p q; simp [T.setp_e, T.getp_n, T.getp_e, beq_of_ne (Ne.symm hij)]
  | n k w l r ihl ihr =>
    intro p q
    rw [T.setp_n]
    cases h : Nat.beq k i with
    | true =>
      obtain rfl := eq_of_beq h
      simp [T.getp_n, beq_of_ne (Ne.symm hij)]
    | false =>
      cases h2 : Nat.beq (Nat.mod p 2) 0 with
      | true => simp only [cond_false, cond_true, T.getp_n, ihl]
      | false => simp only [cond_false, T.getp_n, ihr]

theorem lget_eq (l : List α) : ∀ i, lget l i = l[i]? := by
  induction l with
  | nil => intro i; rfl
  | cons x l ih => intro i; cases i with
    | zero => rfl
    | succ i => exact (ih i).trans (by simp)
theorem lapp_eq (a b : List α) : lapp a b = a ++ b := by
  induction a with
  | nil => rfl
  | cons x l ih => exact congrArg (x :: ·) ih
theorem lmapO_nil (f : α → Option β) : lmapO f [] = some [] := rfl
theorem lmapO_cons (f : α → Option β) (x : α) (l : List α) : lmapO f (x :: l) = (match f x with
    | none => none
    | some y => match lmapO f l with
      | none => none
      | some ys => some (y :: ys)) := rfl
theorem lfoldO_nil (f : σ → α → Option σ) (s : σ) : lfoldO f [] s = some s := rfl
theorem lfoldO_cons (f : σ → α → Option σ) (x : α) (l : List α) (s : σ) : lfoldO f (x :: l) s = (match f s x with
    | none => none
    | some s' => lfoldO f l s') := rfl
theorem lfold_nil (f : σ → α → σ) (s : σ) : lfold f [] s = s := rfl
theorem lfold_cons (f : σ → α → σ) (x : α) (l : List α) (s : σ) : lfold f (x :: l) s = lfold f l (f s x) := rfl
theorem lfold_eq (f : σ → α → σ) (l : List α) : ∀ s, lfold f l s = l.foldl f s := by
  induction l with
  | nil => intro s; rfl
  | cons x l ih => intro s; exact ih _
theorem lall_eq (p : α → Bool) (l : List α) : lall p l = l.all p := by
  induction l with
  | nil => rfl
  | cons x l ih =>
    show (bif p x then lall p l else false) = _
    rw [ih]; cases h : p x <;> simp [h]
theorem lfind_nil (p : α → Bool) : lfind p [] = none := rfl
theorem lfind_cons (p : α → Bool) (x : α) (l : List α) : lfind p (x :: l) = bif p x then some x else lfind p l := rfl
theorem lfilter_eq (p : α → Bool) (l : List α) : lfilter p l = l.filter p := by
  induction l with
  | nil => rfl
  | cons x l ih =>
    show (bif p x then x :: lfilter p l else lfilter p l) = _
    rw [ih]; cases h : p x <;> simp [h]
theorem llen_eq (l : List α) : llen l = l.length := by
  induction l with
  | nil => rfl
  | cons x l ih => exact congrArg Nat.succ ih
theorem lset_eq (l : List α) : ∀ i v, lset l i v = l.set i v := by
  induction l with
  | nil => intro i v; rfl
  | cons x l ih => intro i v; cases i with
    | zero => rfl
    | succ i => exact congrArg (x :: ·) (ih i v)
theorem lbeq_eq (a : List Nat) : ∀ b, lbeq a b = decide (a = b) := by
  induction a with
  | nil => intro b; cases b <;> simp [lbeq]
  | cons x a ih =>
    intro b
    cases b with
    | nil => simp [lbeq]
    | cons y b =>
      show (bif Nat.beq x y then lbeq a b else false) = _
      rw [ih]
      cases h : Nat.beq x y with
      | true => have := eq_of_beq h; simp [this]
      | false => have := ne_of_beq h; simp [this]
theorem llt_nil_right (a : List Nat) : llt a [] = false := by cases a <;> rfl
theorem llt_nil_cons (y : Nat) (b : List Nat) : llt [] (y :: b) = true := rfl
theorem llt_cons (x y : Nat) (a b : List Nat) : llt (x :: a) (y :: b) = bif Nat.blt x y then true else bif Nat.beq x y then llt a b else false := rfl
theorem ltake_eq (l : List α) : ∀ i, ltake l i = l.take i := by
  induction l with
  | nil => intro i; simp [ltake]
  | cons x l ih => intro i; cases i with
    | zero => rfl
    | succ i => exact congrArg (x :: ·) (ih i)
theorem ldrop_eq (l : List α) : ∀ i, ldrop l i = l.drop i := by
  induction l with
  | nil => intro i; simp [ldrop]
  | cons x l ih => intro i; cases i with
    | zero => rfl
    | succ i => exact ih i
theorem lmem_eq (n : Nat) (l : List Nat) : lmem n l = l.contains n := by
  induction l with
  | nil => rfl
  | cons x l ih =>
    show (bif Nat.beq x n then true else lmem n l) = _
    rw [ih]
    cases h : Nat.beq x n with
    | true => have := eq_of_beq h; simp [this]
    | false => have := ne_of_beq h; simp [Ne.symm this]
theorem lmap_eq (f : α → β) (l : List α) : lmap f l = l.map f := by
  induction l with
  | nil => rfl
  | cons x l ih => exact congrArg (f x :: ·) ih
theorem lrepl_eq (v : α) (tail : List α) (n : Nat) : lrepl v tail n = List.replicate n v ++ tail := by
  induction n with
  | zero => rfl
  | succ n ih => exact congrArg (v :: ·) ih
theorem rflat_nil : rflat ([] : List (Nat × α)) = [] := rfl
theorem rflat_cons (n : Nat) (v : α) (l : List (Nat × α)) : rflat ((n, v) :: l) = List.replicate n v ++ rflat l := lrepl_eq _ _ _
theorem rlen_cons (n : Nat) (v : α) (l : List (Nat × α)) : rlen ((n, v) :: l) = n + rlen l := rfl
theorem rlen_eq (l : List (Nat × α)) : rlen l = (rflat l).length := by
  induction l with
  | nil => rfl
  | cons x l ih => obtain ⟨n, v⟩ := x; rw [rlen_cons, rflat_cons, ih]; simp
theorem ble_iff {n m : Nat} : Nat.ble n m = true ↔ n ≤ m := ⟨Nat.le_of_ble_eq_true, Nat.ble_eq_true_of_le⟩
theorem blt_iff {n m : Nat} : Nat.blt n m = true ↔ n < m := ble_iff
theorem ble_false {n m : Nat} : Nat.ble n m = false ↔ m < n := by
  rw [← Bool.not_eq_true, ble_iff]; omega
theorem blt_false {n m : Nat} : Nat.blt n m = false ↔ m ≤ n := by
  rw [← Bool.not_eq_true, blt_iff]; omega
theorem beq_false {n m : Nat} : Nat.beq n m = false ↔ n ≠ m := ⟨ne_of_beq, beq_of_ne⟩
theorem beq_iff {n m : Nat} : Nat.beq n m = true ↔ n = m := ⟨eq_of_beq, fun h => h ▸ beq_self n⟩
theorem rget_eq (l : List (Nat × α)) : ∀ i, rget l i = (rflat l)[i]? := by
  induction l with
  | nil => intro i; rfl
  | cons x l ih =>
    intro i
    obtain ⟨n, v⟩ := x
    show (bif Nat.blt i n then some v else rget l (i - n)) = _
    rw [ih, rflat_cons]
    cases h : Nat.blt i n with
    | true =>
      have : i < n := Nat.lt_of_lt_of_le (Nat.lt_succ_self i) (Nat.le_of_ble_eq_true h)
      rw [List.getElem?_append_left (by simpa using this)]
      simp [this]
    | false =>
      have : n ≤ i := blt_false.1 h
      rw [List.getElem?_append_right (by simpa using this)]
      simp
theorem rtake_eq (l : List (Nat × α)) : ∀ i, rflat (rtake l i) = (rflat l).take i := by
  induction l with
  | nil => intro i; simp [rtake, rflat_nil]
  | cons x l ih =>
    intro i
    obtain ⟨n, v⟩ := x
    show rflat (bif Nat.beq i 0 then [] else bif Nat.ble i n then [(i, v)] else (n, v) :: rtake l (i - n)) = _
    cases h : Nat.beq i 0 with
    | true => have := eq_of_beq h; subst this; simp [rflat_nil]
    | false =>
      cases h2 : Nat.ble i n with
      | true =>
        have := ble_iff.1 h2
        simp only [cond_false, cond_true, rflat_cons, rflat_nil, List.append_nil]
        rw [List.take_append_of_le_length (by simpa using this)]
        simp [Nat.min_eq_left this]
      | false =>
        have := ble_false.1 h2
        simp only [cond_false, rflat_cons, ih]
        rw [List.take_append]
        simp only [List.length_replicate, List.take_replicate]
        rw [Nat.min_eq_right (by omega)]
theorem rdrop_eq (l : List (Nat × α)) : ∀ i, rflat (rdrop l i) = (rflat l).drop i := by
  induction l with
  | nil => intro i; simp [rdrop, rflat_nil]
  | cons x l ih =>
    intro i
    obtain ⟨n, v⟩ := x
    show rflat (bif Nat.beq i 0 then (n, v) :: l else bif Nat.blt i n then (n - i, v) :: l else rdrop l (i - n)) = _
    cases h : Nat.beq i 0 with
    | true => have := eq_of_beq h; subst this; simp
    | false =>
      cases h2 : Nat.blt i n with
      | true =>
        have := blt_iff.1 h2
        simp only [cond_false, cond_true, rflat_cons]
        rw [List.drop_append_of_le_length (by simp; omega)]
        simp
      | false =>
        have := blt_false.1 h2
        simp only [cond_false, rflat_cons, ih]
        rw [List.drop_append]
        simp [this]
theorem rflat_app (a b : List (Nat × α)) : rflat (lapp a b) = rflat a ++ rflat b := by
  rw [lapp_eq]
  induction a with
  | nil => simp [rflat_nil]
  | cons x l ih => obtain ⟨n, v⟩ := x; simp only [List.cons_append, rflat_cons, ih, List.append_assoc]
theorem rrep_succ (rs : List (Nat × α)) (n : Nat) : rrep rs (n + 1) = lapp rs (rrep rs n) := rfl
theorem rflat_rrep (rs : List (Nat × α)) (n : Nat) : rflat (rrep rs n) = (List.replicate n (rflat rs)).flatten := by
  induction n with
  | zero => rfl
  | succ n ih => rw [rrep_succ, rflat_app, ih]; simp [List.replicate_succ]
theorem nrec_zero (z : α) (s : α → α) : nrec z s 0 = z := rfl
theorem nrec_succ (z : α) (s : α → α) (n : Nat) : nrec z s (n + 1) = s (nrec z s n) := rfl
end
end Go.Ev
namespace Go.Ev
noncomputable section
def T.get {α : Type} (t : T α) (i : Nat) : Option α := t.getp i i
def T.set {α : Type} (t : T α) (i : Nat) (v : α) : T α := t.setp i i v

/-- The capacity of a slice: a number; or what an append has drawn, less k elements. -/
inductive Cap where
  | ex (n : Nat)
  | rest (k : Nat)

/-- Values; addresses by the evaluator's own numbers of blocks. -/
inductive AV where
  | bool (b : Bool)
  | int (k : IntKind) (n : Int)
  | str (s : List Nat)
  | ptr (i off : Nat)
  | nptr
  | sl (i off len : Nat) (cap : Cap)
  | nsl
  | map (i : Nat)
  | nmap
  | chan (i : Nat)
  | nchan
  | fn (f : FuncId) (first cap : List AV)
  | yld (i : Nat)
  | nfn
  | ifc (t : TypeId) (v : AV)
  | nifc
  | agg (cs : List (Nat × AV))
  | tup (vs : List AV)
  | opq (k : Nat)

abbrev RL := List (Nat × AV)

structure Ent where
  key : AV
  val : AV
  born : Nat

structure Lp where
  st : LoopState
  pending : Option Code
  tm : T AV
  sz : Nat
  params : List Tmp
  assign : Code
  body : Code
  dfr : Nat

inductive AObj where
  | cells (e : TypeId) (rs : RL) (op : Option Nat)
  | ro (rs : RL)
  | map (es : List Ent) (clock : Nat)
  | siter (s : List Nat) (pos : Nat)
  | miter (m : Option Nat) (since : Nat) (seen : List Nat) (stepped : Nat)
  | loop (l : Lp)
  | dfr (shut : Bool)
  | dead

structure AW where
  heap : T AObj
  next : Nat

inductive ADef where
  | mark (i : Nat)
  | call (f : FuncId) (cap args : List AV)

structure Ty where
  und : TypeDesc
  size : Nat
  bytes : Nat
  agg : Bool
  zero : Option AV

abbrev Prim := List AV → AW → Option (AV × AW)

/-- Body-less functions: what they give. -/
inductive Ext where
  | same | indexByteString

structure Cx where
  P : Program
  ext : Nat → Option Ext
  tt : T Ty
  fns : T Func
  pr : Nat → Option Prim

/-- What code comes to. -/
inductive Rs where
  | no
  | mk (x : Exit) (tm : T AV) (dfs : List ADef) (S : AW)

/- what an interpreter of calls and of code gives -/
structure Iv where
  code : Code → Option Nat → Nat → T AV → List ADef → AW → Rs
  call : FuncId → List AV → AW → Option (AV × AW)
  dcode : Code → Nat → T AV → List ADef → AW → Rs

/- what is in a value -/
def dBool (x : AV) : Option Bool :=
  @AV.rec (fun _ => Option Bool) (fun _ => Unit) (fun _ => Unit) (fun _ => Unit)
    (fun b => some b)
    (fun _ _ => none)
    (fun _ => none)
    (fun _ _ => none)
    (none)
    (fun _ _ _ _ => none)
    (none)
    (fun _ => none)
    (none)
    (fun _ => none)
    (none)
    (fun _ _ _ _ _ => none)
    (fun _ => none)
    (none)
    (fun _ _ _ => none)
    (none)
    (fun _ _ => none)
    (fun _ _ => none)
    (fun _ => none)
    () (fun _ _ _ _ => ()) () (fun _ _ _ _ => ()) (fun _ _ _ => ()) x

def dInt (x : AV) : Option (IntKind × Int) :=
  @AV.rec (fun _ => Option (IntKind × Int)) (fun _ => Unit) (fun _ => Unit) (fun _ => Unit)
    (fun _ => none)
    (fun k n => some (k, n))
    (fun _ => none)
    (fun _ _ => none)
    (none)
    (fun _ _ _ _ => none)
    (none)
    (fun _ => none)
    (none)
    (fun _ => none)
    (none)
    (fun _ _ _ _ _ => none)
    (fun _ => none)
    (none)
    (fun _ _ _ => none)
    (none)
    (fun _ _ => none)
    (fun _ _ => none)
    (fun _ => none)
    () (fun _ _ _ _ => ()) () (fun _ _ _ _ => ()) (fun _ _ _ => ()) x

def natOf (x : Int) : Option Nat :=
  @Int.rec (fun _ => Option Nat)
    (fun n => some n)
    (fun _ => none) x

def dNat (x : AV) : Option Nat :=
  @AV.rec (fun _ => Option Nat) (fun _ => Unit) (fun _ => Unit) (fun _ => Unit)
    (fun _ => none)
    (fun k n => natOf n)
    (fun _ => none)
    (fun _ _ => none)
    (none)
    (fun _ _ _ _ => none)
    (none)
    (fun _ => none)
    (none)
    (fun _ => none)
    (none)
    (fun _ _ _ _ _ => none)
    (fun _ => none)
    (none)
    (fun _ _ _ => none)
    (none)
    (fun _ _ => none)
    (fun _ _ => none)
    (fun _ => none)
    () (fun _ _ _ _ => ()) () (fun _ _ _ _ => ()) (fun _ _ _ => ()) x

def dStr (x : AV) : Option (List Nat) :=
  @AV.rec (fun _ => Option (List Nat)) (fun _ => Unit) (fun _ => Unit) (fun _ => Unit)
    (fun _ => none)
    (fun _ _ => none)
    (fun s => some s)
    (fun _ _ => none)
    (none)
    (fun _ _ _ _ => none)
    (none)
    (fun _ => none)
    (none)
    (fun _ => none)
    (none)
    (fun _ _ _ _ _ => none)
    (fun _ => none)
    (none)
    (fun _ _ _ => none)
    (none)
    (fun _ _ => none)
    (fun _ _ => none)
    (fun _ => none)
    () (fun _ _ _ _ => ()) () (fun _ _ _ _ => ()) (fun _ _ _ => ()) x

def dPtr (x : AV) : Option (Nat × Nat) :=
  @AV.rec (fun _ => Option (Nat × Nat)) (fun _ => Unit) (fun _ => Unit) (fun _ => Unit)
    (fun _ => none)
    (fun _ _ => none)
    (fun _ => none)
    (fun i o => some (i, o))
    (none)
    (fun _ _ _ _ => none)
    (none)
    (fun _ => none)
    (none)
    (fun _ => none)
    (none)
    (fun _ _ _ _ _ => none)
    (fun _ => none)
    (none)
    (fun _ _ _ => none)
    (none)
    (fun _ _ => none)
    (fun _ _ => none)
    (fun _ => none)
    () (fun _ _ _ _ => ()) () (fun _ _ _ _ => ()) (fun _ _ _ => ()) x

def dAgg (x : AV) : Option RL :=
  @AV.rec (fun _ => Option RL) (fun _ => Unit) (fun _ => Unit) (fun _ => Unit)
    (fun _ => none)
    (fun _ _ => none)
    (fun _ => none)
    (fun _ _ => none)
    (none)
    (fun _ _ _ _ => none)
    (none)
    (fun _ => none)
    (none)
    (fun _ => none)
    (none)
    (fun _ _ _ _ _ => none)
    (fun _ => none)
    (none)
    (fun _ _ _ => none)
    (none)
    (fun cs _ => some cs)
    (fun _ _ => none)
    (fun _ => none)
    () (fun _ _ _ _ => ()) () (fun _ _ _ _ => ()) (fun _ _ _ => ()) x

def dTup (x : AV) : Option (List AV) :=
  @AV.rec (fun _ => Option (List AV)) (fun _ => Unit) (fun _ => Unit) (fun _ => Unit)
    (fun _ => none)
    (fun _ _ => none)
    (fun _ => none)
    (fun _ _ => none)
    (none)
    (fun _ _ _ _ => none)
    (none)
    (fun _ => none)
    (none)
    (fun _ => none)
    (none)
    (fun _ _ _ _ _ => none)
    (fun _ => none)
    (none)
    (fun _ _ _ => none)
    (none)
    (fun _ _ => none)
    (fun vs _ => some vs)
    (fun _ => none)
    () (fun _ _ _ _ => ()) () (fun _ _ _ _ => ()) (fun _ _ _ => ()) x

def dMap (x : AV) : Option Nat :=
  @AV.rec (fun _ => Option Nat) (fun _ => Unit) (fun _ => Unit) (fun _ => Unit)
    (fun _ => none)
    (fun _ _ => none)
    (fun _ => none)
    (fun _ _ => none)
    (none)
    (fun _ _ _ _ => none)
    (none)
    (fun i => some i)
    (none)
    (fun _ => none)
    (none)
    (fun _ _ _ _ _ => none)
    (fun _ => none)
    (none)
    (fun _ _ _ => none)
    (none)
    (fun _ _ => none)
    (fun _ _ => none)
    (fun _ => none)
    () (fun _ _ _ _ => ()) () (fun _ _ _ _ => ()) (fun _ _ _ => ()) x

def dYld (x : AV) : Option Nat :=
  @AV.rec (fun _ => Option Nat) (fun _ => Unit) (fun _ => Unit) (fun _ => Unit)
    (fun _ => none)
    (fun _ _ => none)
    (fun _ => none)
    (fun _ _ => none)
    (none)
    (fun _ _ _ _ => none)
    (none)
    (fun _ => none)
    (none)
    (fun _ => none)
    (none)
    (fun _ _ _ _ _ => none)
    (fun i => some i)
    (none)
    (fun _ _ _ => none)
    (none)
    (fun _ _ => none)
    (fun _ _ => none)
    (fun _ => none)
    () (fun _ _ _ _ => ()) () (fun _ _ _ _ => ()) (fun _ _ _ => ()) x

structure Sl where
  i : Nat
  off : Nat
  len : Nat
  cap : Cap
def dSl (x : AV) : Option Sl :=
  @AV.rec (fun _ => Option Sl) (fun _ => Unit) (fun _ => Unit) (fun _ => Unit)
    (fun _ => none)
    (fun _ _ => none)
    (fun _ => none)
    (fun _ _ => none)
    (none)
    (fun i o n c => some ⟨i, o, n, c⟩)
    (none)
    (fun _ => none)
    (none)
    (fun _ => none)
    (none)
    (fun _ _ _ _ _ => none)
    (fun _ => none)
    (none)
    (fun _ _ _ => none)
    (none)
    (fun _ _ => none)
    (fun _ _ => none)
    (fun _ => none)
    () (fun _ _ _ _ => ()) () (fun _ _ _ _ => ()) (fun _ _ _ => ()) x

structure FnV where
  f : FuncId
  first : List AV
  cap : List AV
def dFn (x : AV) : Option FnV :=
  @AV.rec (fun _ => Option FnV) (fun _ => Unit) (fun _ => Unit) (fun _ => Unit)
    (fun _ => none)
    (fun _ _ => none)
    (fun _ => none)
    (fun _ _ => none)
    (none)
    (fun _ _ _ _ => none)
    (none)
    (fun _ => none)
    (none)
    (fun _ => none)
    (none)
    (fun f a b _ _ => some ⟨f, a, b⟩)
    (fun _ => none)
    (none)
    (fun _ _ _ => none)
    (none)
    (fun _ _ => none)
    (fun _ _ => none)
    (fun _ => none)
    () (fun _ _ _ _ => ()) () (fun _ _ _ _ => ()) (fun _ _ _ => ()) x

structure Ifc where
  t : TypeId
  v : AV
def dIfc (x : AV) : Option Ifc :=
  @AV.rec (fun _ => Option Ifc) (fun _ => Unit) (fun _ => Unit) (fun _ => Unit)
    (fun _ => none)
    (fun _ _ => none)
    (fun _ => none)
    (fun _ _ => none)
    (none)
    (fun _ _ _ _ => none)
    (none)
    (fun _ => none)
    (none)
    (fun _ => none)
    (none)
    (fun _ _ _ _ _ => none)
    (fun _ => none)
    (none)
    (fun t v _ => some ⟨t, v⟩)
    (none)
    (fun _ _ => none)
    (fun _ _ => none)
    (fun _ => none)
    () (fun _ _ _ _ => ()) () (fun _ _ _ _ => ()) (fun _ _ _ => ()) x

def isNsl (x : AV) : Bool :=
  @AV.rec (fun _ => Bool) (fun _ => Unit) (fun _ => Unit) (fun _ => Unit)
    (fun _ => false)
    (fun _ _ => false)
    (fun _ => false)
    (fun _ _ => false)
    (false)
    (fun _ _ _ _ => false)
    (true)
    (fun _ => false)
    (false)
    (fun _ => false)
    (false)
    (fun _ _ _ _ _ => false)
    (fun _ => false)
    (false)
    (fun _ _ _ => false)
    (false)
    (fun _ _ => false)
    (fun _ _ => false)
    (fun _ => false)
    () (fun _ _ _ _ => ()) () (fun _ _ _ _ => ()) (fun _ _ _ => ()) x

def isNmap (x : AV) : Bool :=
  @AV.rec (fun _ => Bool) (fun _ => Unit) (fun _ => Unit) (fun _ => Unit)
    (fun _ => false)
    (fun _ _ => false)
    (fun _ => false)
    (fun _ _ => false)
    (false)
    (fun _ _ _ _ => false)
    (false)
    (fun _ => false)
    (true)
    (fun _ => false)
    (false)
    (fun _ _ _ _ _ => false)
    (fun _ => false)
    (false)
    (fun _ _ _ => false)
    (false)
    (fun _ _ => false)
    (fun _ _ => false)
    (fun _ => false)
    () (fun _ _ _ _ => ()) () (fun _ _ _ _ => ()) (fun _ _ _ => ()) x

def isNptr (x : AV) : Bool :=
  @AV.rec (fun _ => Bool) (fun _ => Unit) (fun _ => Unit) (fun _ => Unit)
    (fun _ => false)
    (fun _ _ => false)
    (fun _ => false)
    (fun _ _ => false)
    (true)
    (fun _ _ _ _ => false)
    (false)
    (fun _ => false)
    (false)
    (fun _ => false)
    (false)
    (fun _ _ _ _ _ => false)
    (fun _ => false)
    (false)
    (fun _ _ _ => false)
    (false)
    (fun _ _ => false)
    (fun _ _ => false)
    (fun _ => false)
    () (fun _ _ _ _ => ()) () (fun _ _ _ _ => ()) (fun _ _ _ => ()) x

def isNifc (x : AV) : Bool :=
  @AV.rec (fun _ => Bool) (fun _ => Unit) (fun _ => Unit) (fun _ => Unit)
    (fun _ => false)
    (fun _ _ => false)
    (fun _ => false)
    (fun _ _ => false)
    (false)
    (fun _ _ _ _ => false)
    (false)
    (fun _ => false)
    (false)
    (fun _ => false)
    (false)
    (fun _ _ _ _ _ => false)
    (fun _ => false)
    (false)
    (fun _ _ _ => false)
    (true)
    (fun _ _ => false)
    (fun _ _ => false)
    (fun _ => false)
    () (fun _ _ _ _ => ()) () (fun _ _ _ _ => ()) (fun _ _ _ => ()) x

/-- Is it a nil, and of which make; is it such a value that is no nil. -/
def nilKind (x : AV) : Nat :=
  @AV.rec (fun _ => Nat) (fun _ => Unit) (fun _ => Unit) (fun _ => Unit)
    (fun _ => 0)
    (fun _ _ => 0)
    (fun _ => 0)
    (fun _ _ => 0)
    (1)
    (fun _ _ _ _ => 0)
    (2)
    (fun _ => 0)
    (3)
    (fun _ => 0)
    (4)
    (fun _ _ _ _ _ => 0)
    (fun _ => 0)
    (5)
    (fun _ _ _ => 0)
    (6)
    (fun _ _ => 0)
    (fun _ _ => 0)
    (fun _ => 0)
    () (fun _ _ _ _ => ()) () (fun _ _ _ _ => ()) (fun _ _ _ => ()) x

def refKind (x : AV) : Nat :=
  @AV.rec (fun _ => Nat) (fun _ => Unit) (fun _ => Unit) (fun _ => Unit)
    (fun _ => 0)
    (fun _ _ => 0)
    (fun _ => 0)
    (fun i o => 1)
    (0)
    (fun i o n c => 2)
    (0)
    (fun i => 3)
    (0)
    (fun i => 4)
    (0)
    (fun f a b _ _ => 5)
    (fun _ => 0)
    (0)
    (fun t v _ => 6)
    (0)
    (fun _ _ => 0)
    (fun _ _ => 0)
    (fun _ => 0)
    () (fun _ _ _ _ => ()) () (fun _ _ _ _ => ()) (fun _ _ _ => ()) x

def typeKind (x : TypeDesc) : Nat :=
  @TypeDesc.rec (fun _ => Nat)
    (0)
    (0)
    (fun _ => 0)
    (fun _ => 0)
    (fun _ => 0)
    (0)
    (0)
    (fun e => 1)
    (fun e => 2)
    (fun _ _ => 0)
    (fun k e => 3)
    (fun d e => 4)
    (fun _ => 0)
    (fun a b c => 5)
    (fun m => 6)
    (fun _ => 0)
    (fun _ _ => 0) x

/-- One cell's value. -/
def oneCell (x : AV) : Bool :=
  @AV.rec (fun _ => Bool) (fun _ => Unit) (fun _ => Unit) (fun _ => Unit)
    (fun _ => true)
    (fun _ _ => true)
    (fun _ => true)
    (fun _ _ => true)
    (true)
    (fun _ _ _ _ => true)
    (true)
    (fun _ => true)
    (true)
    (fun _ => true)
    (true)
    (fun _ _ _ _ _ => true)
    (fun _ => true)
    (true)
    (fun _ _ _ => true)
    (true)
    (fun cs _ => false)
    (fun vs _ => false)
    (fun _ => true)
    () (fun _ _ _ _ => ()) () (fun _ _ _ _ => ()) (fun _ _ _ => ()) x


/- types -/
def dSliceT (x : TypeDesc) : Option TypeId :=
  @TypeDesc.rec (fun _ => Option TypeId)
    (none)
    (none)
    (fun _ => none)
    (fun _ => none)
    (fun _ => none)
    (none)
    (none)
    (fun _ => none)
    (fun e => some e)
    (fun _ _ => none)
    (fun _ _ => none)
    (fun _ _ => none)
    (fun _ => none)
    (fun _ _ _ => none)
    (fun _ => none)
    (fun _ => none)
    (fun _ _ => none) x

def dArrT (x : TypeDesc) : Option (Nat × TypeId) :=
  @TypeDesc.rec (fun _ => Option (Nat × TypeId))
    (none)
    (none)
    (fun _ => none)
    (fun _ => none)
    (fun _ => none)
    (none)
    (none)
    (fun _ => none)
    (fun _ => none)
    (fun n e => some (n, e))
    (fun _ _ => none)
    (fun _ _ => none)
    (fun _ => none)
    (fun _ _ _ => none)
    (fun _ => none)
    (fun _ => none)
    (fun _ _ => none) x

def dStructT (x : TypeDesc) : Option (List Field) :=
  @TypeDesc.rec (fun _ => Option (List Field))
    (none)
    (none)
    (fun _ => none)
    (fun _ => none)
    (fun _ => none)
    (none)
    (none)
    (fun _ => none)
    (fun _ => none)
    (fun _ _ => none)
    (fun _ _ => none)
    (fun _ _ => none)
    (fun fs => some fs.toList)
    (fun _ _ _ => none)
    (fun _ => none)
    (fun _ => none)
    (fun _ _ => none) x

def dMapT (x : TypeDesc) : Option (TypeId × TypeId) :=
  @TypeDesc.rec (fun _ => Option (TypeId × TypeId))
    (none)
    (none)
    (fun _ => none)
    (fun _ => none)
    (fun _ => none)
    (none)
    (none)
    (fun _ => none)
    (fun _ => none)
    (fun _ _ => none)
    (fun k e => some (k, e))
    (fun _ _ => none)
    (fun _ => none)
    (fun _ _ _ => none)
    (fun _ => none)
    (fun _ => none)
    (fun _ _ => none) x

def dPtrT (x : TypeDesc) : Option TypeId :=
  @TypeDesc.rec (fun _ => Option TypeId)
    (none)
    (none)
    (fun _ => none)
    (fun _ => none)
    (fun _ => none)
    (none)
    (none)
    (fun e => some e)
    (fun _ => none)
    (fun _ _ => none)
    (fun _ _ => none)
    (fun _ _ => none)
    (fun _ => none)
    (fun _ _ _ => none)
    (fun _ => none)
    (fun _ => none)
    (fun _ _ => none) x

def dIntT (x : TypeDesc) : Option IntKind :=
  @TypeDesc.rec (fun _ => Option IntKind)
    (none)
    (none)
    (fun k => some k)
    (fun _ => none)
    (fun _ => none)
    (none)
    (none)
    (fun _ => none)
    (fun _ => none)
    (fun _ _ => none)
    (fun _ _ => none)
    (fun _ _ => none)
    (fun _ => none)
    (fun _ _ _ => none)
    (fun _ => none)
    (fun _ => none)
    (fun _ _ => none) x

def isStrT (x : TypeDesc) : Bool :=
  @TypeDesc.rec (fun _ => Bool)
    (false)
    (false)
    (fun _ => false)
    (fun _ => false)
    (fun _ => false)
    (true)
    (false)
    (fun _ => false)
    (fun _ => false)
    (fun _ _ => false)
    (fun _ _ => false)
    (fun _ _ => false)
    (fun _ => false)
    (fun _ _ _ => false)
    (fun _ => false)
    (fun _ => false)
    (fun _ _ => false) x

def isBoolT (x : TypeDesc) : Bool :=
  @TypeDesc.rec (fun _ => Bool)
    (false)
    (true)
    (fun _ => false)
    (fun _ => false)
    (fun _ => false)
    (false)
    (false)
    (fun _ => false)
    (fun _ => false)
    (fun _ _ => false)
    (fun _ _ => false)
    (fun _ _ => false)
    (fun _ => false)
    (fun _ _ _ => false)
    (fun _ => false)
    (fun _ => false)
    (fun _ _ => false) x

def isIfcT (x : TypeDesc) : Bool :=
  @TypeDesc.rec (fun _ => Bool)
    (false)
    (false)
    (fun _ => false)
    (fun _ => false)
    (fun _ => false)
    (false)
    (false)
    (fun _ => false)
    (fun _ => false)
    (fun _ _ => false)
    (fun _ _ => false)
    (fun _ _ => false)
    (fun _ => false)
    (fun _ _ _ => false)
    (fun m => true)
    (fun _ => false)
    (fun _ _ => false) x

def isUnsafeT (x : TypeDesc) : Bool :=
  @TypeDesc.rec (fun _ => Bool)
    (false)
    (false)
    (fun _ => false)
    (fun _ => false)
    (fun _ => false)
    (false)
    (true)
    (fun _ => false)
    (fun _ => false)
    (fun _ _ => false)
    (fun _ _ => false)
    (fun _ _ => false)
    (fun _ => false)
    (fun _ _ _ => false)
    (fun _ => false)
    (fun _ => false)
    (fun _ _ => false) x

def isAggT (x : TypeDesc) : Bool :=
  @TypeDesc.rec (fun _ => Bool)
    (false)
    (false)
    (fun _ => false)
    (fun _ => false)
    (fun _ => false)
    (false)
    (false)
    (fun _ => false)
    (fun _ => false)
    (fun n e => true)
    (fun _ _ => false)
    (fun _ _ => false)
    (fun fs => true)
    (fun _ _ _ => false)
    (fun _ => false)
    (fun _ => false)
    (fun _ _ => false) x


/- numbers -/
def kcode (x : IntKind) : Nat :=
  @IntKind.rec (fun _ => Nat)
    (0)
    (1)
    (2)
    (3)
    (4)
    (5)
    (6)
    (7) x

def ikeq (j k : IntKind) : Bool := Nat.beq (kcode j) (kcode k)
def umax (x : IntKind) : Nat :=
  @IntKind.rec (fun _ => Nat)
    (255)
    (65535)
    (4294967295)
    (18446744073709551615)
    (255)
    (65535)
    (4294967295)
    (18446744073709551615) x

def pmax (x : IntKind) : Nat :=
  @IntKind.rec (fun _ => Nat)
    (127)
    (32767)
    (2147483647)
    (9223372036854775807)
    (255)
    (65535)
    (4294967295)
    (18446744073709551615) x

def nbits (x : IntKind) : Nat :=
  @IntKind.rec (fun _ => Nat)
    (8)
    (16)
    (32)
    (64)
    (8)
    (16)
    (32)
    (64) x

def isSigned (x : IntKind) : Bool :=
  @IntKind.rec (fun _ => Bool)
    (true)
    (true)
    (true)
    (true)
    (false)
    (false)
    (false)
    (false) x

def wrapN (k : IntKind) (m : Nat) : Int := iteB (Nat.ble m (pmax k)) (.ofNat m) (k.wrap (.ofNat m))
def wrapS (k : IntKind) (m : Nat) : Int := iteB (isSigned k) (iteB (Nat.ble m (pmax k)) (.negSucc m) (k.wrap (.negSucc m))) (k.wrap (.negSucc m))
def wrapX (x : Int) : (IntKind → Int) :=
  @Int.rec (fun _ => (IntKind → Int))
    (fun m => fun k => wrapN k m)
    (fun m => fun k => wrapS k m) x

def wrapI (k : IntKind) (n : Int) : Int := wrapX n k
def ieqN (x : Int) : (Nat → Bool) :=
  @Int.rec (fun _ => (Nat → Bool))
    (fun m => fun n => Nat.beq m n)
    (fun m => fun _ => false) x

def ieqS (x : Int) : (Nat → Bool) :=
  @Int.rec (fun _ => (Nat → Bool))
    (fun m => fun _ => false)
    (fun m => fun n => Nat.beq m n) x

def ieqX (x : Int) : (Int → Bool) :=
  @Int.rec (fun _ => (Int → Bool))
    (fun m => fun y => ieqN y m)
    (fun m => fun y => ieqS y m) x

def ieq (x y : Int) : Bool := ieqX x y
def igtN (x : Int) : (Nat → Bool) :=
  @Int.rec (fun _ => (Nat → Bool))
    (fun m => fun n => Nat.blt n m)
    (fun m => fun _ => false) x

def igtS (x : Int) : (Nat → Bool) :=
  @Int.rec (fun _ => (Nat → Bool))
    (fun m => fun _ => true)
    (fun m => fun n => Nat.blt m n) x

def iltX (x : Int) : (Int → Bool) :=
  @Int.rec (fun _ => (Int → Bool))
    (fun m => fun y => igtN y m)
    (fun m => fun y => igtS y m) x

def ilt (x y : Int) : Bool := iltX x y
def iaddN (x : Int) : (Nat → Int) :=
  @Int.rec (fun _ => (Nat → Int))
    (fun m => fun n => .ofNat (Nat.add n m))
    (fun m => fun n => Int.add (.ofNat n) (.negSucc m)) x

def iaddX (x : Int) : (Int → Int) :=
  @Int.rec (fun _ => (Int → Int))
    (fun m => fun y => iaddN y m)
    (fun m => fun y => Int.add (.negSucc m) y) x

def iadd (x y : Int) : Int := iaddX x y
def subNN (m n : Nat) : Int := iteB (Nat.ble n m) (.ofNat (Nat.sub m n)) (.negSucc (Nat.sub n (Nat.succ m)))
def isubN (x : Int) : (Nat → Int) :=
  @Int.rec (fun _ => (Nat → Int))
    (fun n => fun m => subNN m n)
    (fun n => fun m => Int.sub (.ofNat m) (.negSucc n)) x

def isubX (x : Int) : (Int → Int) :=
  @Int.rec (fun _ => (Int → Int))
    (fun m => fun y => isubN y m)
    (fun m => fun y => Int.sub (.negSucc m) y) x

def isub (x y : Int) : Int := isubX x y
def imulN (x : Int) : (Nat → Int) :=
  @Int.rec (fun _ => (Nat → Int))
    (fun m => fun n => .ofNat (Nat.mul n m))
    (fun m => fun n => Int.mul (.ofNat n) (.negSucc m)) x

def imulX (x : Int) : (Int → Int) :=
  @Int.rec (fun _ => (Int → Int))
    (fun m => fun y => imulN y m)
    (fun m => fun y => Int.mul (.negSucc m) y) x

def imul (x y : Int) : Int := imulX x y

def wI (k : IntKind) (n : Int) : Option AV := some (.int k (wrapI k n))
/-- bits of two numbers that are not below 0: g on Nat, h on bit vectors elsewhere -/
def bitsN (g : Nat → Nat → Nat) (h : IntKind → Int → Int → Int) (k : IntKind) (x y : Int) : Option AV :=
  oel (some (.int k (h k x y))) (natOf x) fun a => oel (some (.int k (h k x y))) (natOf y) fun b =>
    iteB (andB (Nat.ble a (umax k)) (Nat.ble b (umax k))) (some (.int k (wrapN k (g a b)))) (some (.int k (h k x y)))
def andH (k : IntKind) (x y : Int) : Int := k.wrap (BitVec.ofInt k.bits x &&& BitVec.ofInt k.bits y).toNat
def orH (k : IntKind) (x y : Int) : Int := k.wrap (BitVec.ofInt k.bits x ||| BitVec.ofInt k.bits y).toNat
def xorH (k : IntKind) (x y : Int) : Int := k.wrap (BitVec.ofInt k.bits x ^^^ BitVec.ofInt k.bits y).toNat
def quoI (k : IntKind) (x y : Int) : Option AV := ob (natOf x) fun a => ob (natOf y) fun b => tst (notB (Nat.beq b 0)) (wI k (.ofNat (Nat.div a b)))
def remI (k : IntKind) (x y : Int) : Option AV := ob (natOf x) fun a => ob (natOf y) fun b => tst (notB (Nat.beq b 0)) (some (.int k (.ofNat (Nat.mod a b))))
def shN (k : IntKind) (s : Nat) : Nat := iteB (Nat.ble s (nbits k)) s (nbits k)
def shlI (k : IntKind) (x y : Int) : Option AV := ob (natOf y) fun s => wI k (imul x (.ofNat (Nat.pow 2 (shN k s))))
def shrX (x : Int) : (Nat → Int) :=
  @Int.rec (fun _ => (Nat → Int))
    (fun a => fun p => .ofNat (Nat.div a p))
    (fun a => fun p => .negSucc (Nat.div a p)) x

def shrI (k : IntKind) (x y : Int) : Option AV := ob (natOf y) fun s => some (.int k (shrX x (Nat.pow 2 (shN k s))))
def bB (b : Bool) : Option AV := some (.bool b)

abbrev BI := IntKind → Int → IntKind → Int → Option AV
def biAdd : BI := fun k x j y => tst (ikeq k j) (wI k (iadd x y))
def biSub : BI := fun k x j y => tst (ikeq k j) (wI k (isub x y))
def biMul : BI := fun k x j y => tst (ikeq k j) (wI k (imul x y))
def biQuo : BI := fun k x j y => tst (ikeq k j) (quoI k x y)
def biRem : BI := fun k x j y => tst (ikeq k j) (remI k x y)
def biAnd : BI := fun k x j y => tst (ikeq k j) (bitsN Nat.land andH k x y)
def biOr : BI := fun k x j y => tst (ikeq k j) (bitsN Nat.lor orH k x y)
def biXor : BI := fun k x j y => tst (ikeq k j) (bitsN Nat.xor xorH k x y)
def biShl : BI := fun k x _ y => shlI k x y
def biShr : BI := fun k x _ y => shrI k x y
def biEql : BI := fun k x j y => tst (ikeq k j) (bB (ieq x y))
def biNeq : BI := fun k x j y => tst (ikeq k j) (bB (notB (ieq x y)))
def biLss : BI := fun k x j y => tst (ikeq k j) (bB (ilt x y))
def biLeq : BI := fun k x j y => tst (ikeq k j) (bB (notB (ilt y x)))
def biGtr : BI := fun k x j y => tst (ikeq k j) (bB (ilt y x))
def biGeq : BI := fun k x j y => tst (ikeq k j) (bB (notB (ilt x y)))
def biNo : BI := fun _ _ _ _ => none
def intBin (x : BinOp) : BI :=
  @BinOp.rec (fun _ => BI)
    (biAdd)
    (biSub)
    (biMul)
    (biQuo)
    (biRem)
    (biAnd)
    (biOr)
    (biXor)
    (biShl)
    (biShr)
    (biNo)
    (biEql)
    (biNeq)
    (biLss)
    (biLeq)
    (biGtr)
    (biGeq) x


abbrev BS := List Nat → List Nat → Option AV
def bsAdd : BS := fun x y => tst (Nat.ble (Nat.add (llen x) (llen y)) 1048576) (some (.str (lapp x y)))
def bsEql : BS := fun x y => bB (lbeq x y)
def bsNeq : BS := fun x y => bB (notB (lbeq x y))
def bsLss : BS := fun x y => bB (llt x y)
def bsGtr : BS := fun x y => bB (llt y x)
def bsLeq : BS := fun x y => bB (notB (llt y x))
def bsGeq : BS := fun x y => bB (notB (llt x y))
def bsNo : BS := fun _ _ => none
def strBin (x : BinOp) : BS :=
  @BinOp.rec (fun _ => BS)
    (bsAdd)
    (bsNo)
    (bsNo)
    (bsNo)
    (bsNo)
    (bsNo)
    (bsNo)
    (bsNo)
    (bsNo)
    (bsNo)
    (bsNo)
    (bsEql)
    (bsNeq)
    (bsLss)
    (bsLeq)
    (bsGtr)
    (bsGeq) x

def beqB (a b : Bool) : Bool := iteB a b (notB b)

def isSomeB {α : Type} (x : Option α) : Bool := oel false x fun _ => true
/-- Equality of references: where it hangs on no address. -/
def eqRef (tt : T Ty) (t : TypeDesc) (x y : AV) : Option Bool :=
  let k := typeKind t
  tst (notB (Nat.beq k 0)) (
    iteB (Nat.beq (nilKind x) k)
      (iteB (Nat.beq (nilKind y) k) (tst (notB (Nat.beq k 6)) (some true)) (tst (Nat.beq (refKind y) k) (some false)))
      (tst (Nat.beq (refKind x) k)
        (iteB (Nat.beq (nilKind y) k) (some false)
          (ob (dPtrT t) fun e => tst (isSomeB (tt.get e)) (ob (dPtr x) fun p => ob (dPtr y) fun q => tst (Nat.beq p.1 q.1) (tst (Nat.beq p.2 q.2) (some true)))))))
def eqS (tt : T Ty) (t : TypeDesc) (x y : AV) : Option Bool :=
  oel (oel (oel (eqRef tt t x y)
      (dBool x) fun a => ob (dBool y) fun b => tst (isBoolT t) (some (beqB a b)))
    (dStr x) fun a => ob (dStr y) fun b => tst (isStrT t) (some (lbeq a b)))
  (dInt x) fun p => ob (dInt y) fun q => ob (dIntT t) fun _ => tst (ikeq p.1 q.1) (some (ieq p.2 q.2))

def tsize (tt : T Ty) (t : TypeId) : Option Nat := ob (tt.get t) fun y => some y.size

/-- equality of two structs, field by field -/
def fieldEq1 (tt : T Ty) (x y : RL) (f : Field) : Option Bool :=
  ob (tt.get f.type) fun d => tst (notB d.agg) (ob (rget x f.offset) fun a => ob (rget y f.offset) fun b => eqS tt d.und a b)
def fieldsEq (tt : T Ty) (x y : RL) (fs : List Field) : Option Bool := @List.rec Field (fun _ => Option Bool) (some true) (fun f _ ih => ob (fieldEq1 tt x y f) fun b => iteB b ih (some false)) fs

def eqAgg (C : Cx) (t : TypeId) (a b : RL) : Option Bool :=
  ob (C.tt.get t) fun d => ob (dStructT d.und) fun fs => tst (lall (fun f => notB (f.name == "_")) fs) (tst (notB (C.P.stoodInHeld t)) (tst (notB (C.P.eqGuardType C.P.depth t)) (fieldsEq C.tt a b fs)))
def eqV (C : Cx) (t : TypeId) (cx : Bool) (x y : AV) : Option Bool :=
  oel (iteB (andB (isNifc x) (isNifc y)) (ob (C.tt.get t) fun d => tst (isIfcT d.und) (tst cx (some true))) (ob (C.tt.get t) fun d => eqS C.tt d.und x y))
    (dAgg x) fun a => ob (dAgg y) fun b => eqAgg C t a b
abbrev BE := Option Bool → Option AV
def beEql : BE := fun r => ob r bB
def beNeq : BE := fun r => ob r fun b => bB (notB b)
def beNo : BE := fun _ => none
def eqBin (x : BinOp) : BE :=
  @BinOp.rec (fun _ => BE)
    (beNo)
    (beNo)
    (beNo)
    (beNo)
    (beNo)
    (beNo)
    (beNo)
    (beNo)
    (beNo)
    (beNo)
    (beNo)
    (beEql)
    (beNeq)
    (beNo)
    (beNo)
    (beNo)
    (beNo) x

def binV (C : Cx) (op : BinOp) (t : TypeId) (cx : Bool) (x y : AV) : Option AV :=
  oel (oel (eqBin op (eqV C t cx x y))
      (dStr x) fun a => ob (dStr y) fun b => strBin op a b)
    (dInt x) fun p => ob (dInt y) fun q => intBin op p.1 p.2 q.1 q.2

abbrev UI := AV → Option AV
def uiNeg : UI := fun x => ob (dInt x) fun p => wI p.1 (Int.sub 0 p.2)
def uiXor : UI := fun x => ob (dInt x) fun p => iteB (isSigned p.1) (bitsN Nat.xor xorH p.1 (.negSucc 0) p.2) (bitsN Nat.xor xorH p.1 (.ofNat (pmax p.1)) p.2)
def uiNot : UI := fun x => ob (dBool x) fun b => bB (notB b)
def uiNo : UI := fun _ => none
def unV (x : UnOp) : UI :=
  @UnOp.rec (fun _ => UI)
    (uiNeg)
    (uiXor)
    (uiNot)
    (uiNo) x


/- constants -/
def sameScalar (x y : AV) : Bool :=
  oel (oel (andB (notB (Nat.beq (nilKind x) 0)) (Nat.beq (nilKind x) (nilKind y)))
      (dBool x) fun a => oel false (dBool y) fun b => beqB a b)
    (dInt x) fun p => oel false (dInt y) fun q => andB (ikeq p.1 q.1) (ieq p.2 q.2)
def rcons (v : AV) (l : RL) : RL := @List.rec (Nat × AV) (fun _ => RL) [(1, v)] (fun x r _ => iteB (sameScalar v x.2) ((Nat.succ x.1, x.2) :: r) ((1, v) :: x :: r)) l
def nilSl (a : Option Addr) (n c : Nat) : Option AV := oel (tst (andB (Nat.beq n 0) (Nat.beq c 0)) (some .nsl)) a fun _ => none
def ofVal0 (x : Value) : Option AV :=
  @Value.rec (fun _ => Option AV) (fun _ => Unit) (fun _ => Unit)
    (fun b => some (.bool b))
    (fun k n => some (.int k n))
    (fun _ _ => none)
    (fun _ _ _ => none)
    (fun s => some (.str (lmap UInt8.toNat s.data.toList)))
    (fun a => oel (some .nptr) a fun _ => none)
    (fun a n c => nilSl a n c)
    (fun a => oel (some .nmap) a fun _ => none)
    (fun a => oel (some .nchan) a fun _ => none)
    (fun _ _ _ _ _ => none)
    (some .nfn)
    (fun _ _ _ => none)
    (some .nifc)
    (fun _ _ => none)
    (fun _ _ => none)
    (fun _ _ => ()) () (fun _ _ _ _ => ()) x

def ofCells (l : List Value) : Option RL := @List.rec Value (fun _ => Option RL) (some []) (fun v _ ih => ob (ofVal0 v) fun a => ob ih fun r => some (rcons a r)) l
def ofVal (x : Value) : Option AV :=
  @Value.rec (fun _ => Option AV) (fun _ => Unit) (fun _ => Unit)
    (fun b => some (.bool b))
    (fun k n => some (.int k n))
    (fun _ _ => none)
    (fun _ _ _ => none)
    (fun s => some (.str (lmap UInt8.toNat s.data.toList)))
    (fun a => oel (some .nptr) a fun _ => none)
    (fun a n c => nilSl a n c)
    (fun a => oel (some .nmap) a fun _ => none)
    (fun a => oel (some .nchan) a fun _ => none)
    (fun _ _ _ _ _ => none)
    (some .nfn)
    (fun _ _ _ => none)
    (some .nifc)
    (fun cs _ => ob (ofCells cs.toList) fun r => some (.agg r))
    (fun vs _ => ob (lmapO ofVal0 vs.toList) fun r => some (.tup r))
    (fun _ _ => ()) () (fun _ _ _ _ => ()) x


def tyOf (i : TypeInfo) (u : TypeDesc) : Ty := { und := u, size := i.size, bytes := i.bytes, agg := isAggT u, zero := ob i.zero ofVal }
def ttStep (P : Program) (s : T Ty × Nat) (i : TypeInfo) : T Ty × Nat := (oel s.1 (P.underlying s.2) fun u => s.1.set s.2 (tyOf i u), Nat.succ s.2)
def mkTT (P : Program) : T Ty := (lfold (ttStep P) P.types.toList (.e, 0)).1
def mkFns (P : Program) : T Func :=
  (lfold (fun (s : T Func × Nat) (i : Func) => (s.1.set s.2 i, Nat.succ s.2)) P.funcs.toList (.e, 0)).1

/- operands -/
def aevX (x : Operand) : (T AV → Option AV) :=
  @Operand.rec (fun _ => (T AV → Option AV))
    (fun t => fun tm => tm.get t)
    (fun v => fun _ => ofVal v)
    (fun g => fun _ => tst (Nat.blt g 1000) (some (.ptr g 0)))
    (fun f => fun _ => some (.fn f [] [])) x

def aev (tm : T AV) (x : Operand) : Option AV := aevX x tm
def isConst (x : Operand) : Bool :=
  @Operand.rec (fun _ => Bool)
    (fun _ => false)
    (fun v => true)
    (fun _ => false)
    (fun _ => false) x

def cellsOfV (v : AV) : Option RL := oel (tst (oneCell v) (some [(1, v)])) (dAgg v) some

/- memory -/
def rowOf (x : AObj) : Option RL :=
  @AObj.rec (fun _ => Option RL)
    (fun e rs op => some rs)
    (fun rs => some rs)
    (fun _ _ => none)
    (fun _ _ => none)
    (fun _ _ _ _ => none)
    (fun _ => none)
    (fun _ => none)
    (none) x

structure Row where
  e : TypeId
  rs : RL
  op : Option Nat
def dRow (x : AObj) : Option Row :=
  @AObj.rec (fun _ => Option Row)
    (fun e rs op => some ⟨e, rs, op⟩)
    (fun _ => none)
    (fun _ _ => none)
    (fun _ _ => none)
    (fun _ _ _ _ => none)
    (fun _ => none)
    (fun _ => none)
    (none) x

structure Mp where
  es : List Ent
  clock : Nat
def dMp (x : AObj) : Option Mp :=
  @AObj.rec (fun _ => Option Mp)
    (fun _ _ _ => none)
    (fun _ => none)
    (fun es c => some ⟨es, c⟩)
    (fun _ _ => none)
    (fun _ _ _ _ => none)
    (fun _ => none)
    (fun _ => none)
    (none) x

structure Mi where
  m : Option Nat
  since : Nat
  seen : List Nat
  stepped : Nat
def dMi (x : AObj) : Option Mi :=
  @AObj.rec (fun _ => Option Mi)
    (fun _ _ _ => none)
    (fun _ => none)
    (fun _ _ => none)
    (fun _ _ => none)
    (fun m a b c => some ⟨m, a, b, c⟩)
    (fun _ => none)
    (fun _ => none)
    (none) x

structure Si where
  s : List Nat
  pos : Nat
def dSi (x : AObj) : Option Si :=
  @AObj.rec (fun _ => Option Si)
    (fun _ _ _ => none)
    (fun _ => none)
    (fun _ _ => none)
    (fun s p => some ⟨s, p⟩)
    (fun _ _ _ _ => none)
    (fun _ => none)
    (fun _ => none)
    (none) x

def dLp (x : AObj) : Option Lp :=
  @AObj.rec (fun _ => Option Lp)
    (fun _ _ _ => none)
    (fun _ => none)
    (fun _ _ => none)
    (fun _ _ => none)
    (fun _ _ _ _ => none)
    (fun l => some l)
    (fun _ => none)
    (none) x

def dDfr (x : AObj) : Option Bool :=
  @AObj.rec (fun _ => Option Bool)
    (fun _ _ _ => none)
    (fun _ => none)
    (fun _ _ => none)
    (fun _ _ => none)
    (fun _ _ _ _ => none)
    (fun _ => none)
    (fun b => some b)
    (none) x

def AW.put (S : AW) (i : Nat) (o : AObj) : AW := { heap := S.heap.set i o, next := S.next }
def AW.add (S : AW) (o : AObj) : AW := { heap := S.heap.set S.next o, next := Nat.succ S.next }
def rcells (S : AW) (i : Nat) : Option RL := ob (S.heap.get i) rowOf

def rext (rs : RL) (off n : Nat) : Option RL := (fun r => tst (Nat.beq (rlen r) n) (some r)) (rtake (rdrop rs off) n)
def partV (d : Ty) (cs : RL) (off : Nat) : Option AV := iteB d.agg (ob (rext cs off d.size) fun r => some (.agg r)) (rget cs off)
def loadV (tt : T Ty) (S : AW) (t : TypeId) (a : AV) : Option AV :=
  ob (dPtr a) fun p => ob (tt.get t) fun d => ob (rcells S p.1) fun rs => partV d rs p.2
/-- to write cells over cells that are there -/
def rput2 (pre mid new : RL) (off n : Nat) : Option RL := tst (Nat.beq (rlen pre) off) (tst (Nat.ble n (rlen mid)) (some (lapp pre (lapp new (rdrop mid n)))))
def rput (rs : RL) (off : Nat) (new : RL) : Option RL := rput2 (rtake rs off) (rdrop rs off) new off (rlen new)
def storeCellsV (S : AW) (i off : Nat) (new : RL) : Option AW :=
  ob (S.heap.get i) fun o => ob (dRow o) fun r => ob (rput r.rs off new) fun rs => some (S.put i (.cells r.e rs r.op))
def storeV (tt : T Ty) (S : AW) (t : TypeId) (a v : AV) : Option AW :=
  ob (dPtr a) fun p => ob (cellsOfV v) fun cs => ob (tt.get t) fun d => tst (Nat.beq (rlen cs) d.size) (storeCellsV S p.1 p.2 cs)

/- parts of values -/
def fill1 (place : Nat → Option (Nat × Nat)) (cells : RL) (p : Nat × AV) : Option RL :=
  ob (place p.1) fun q => ob (cellsOfV p.2) fun cs => tst (Nat.beq (rlen cs) q.2) (rput cells q.1 cs)
def fillV (place : Nat → Option (Nat × Nat)) (cells : RL) (ps : List (Nat × AV)) : Option RL := lfoldO (fill1 place) ps cells
def fieldPlaceOf (tt : T Ty) (fs : List Field) (i : Nat) : Option (Nat × Nat) := ob (lget fs i) fun f => ob (tt.get f.type) fun d => some (f.offset, d.size)
def elemPlace (s : Nat) (i : Nat) : Option (Nat × Nat) := some (Nat.mul i s, s)
def partsV (tm : T AV) (ps : List (Nat × Operand)) : Option (List (Nat × AV)) := lmapO (fun p => ob (aev tm p.2) fun v => some (p.1, v)) ps
def buildV (tt : T Ty) (t : TypeId) (ps : List (Nat × AV)) : Option AV :=
  ob (tt.get t) fun d => ob d.zero fun z => ob (dAgg z) fun z =>
    oel (ob (dArrT d.und) fun a => ob (tsize tt a.2) fun s => ob (fillV (elemPlace s) z ps) fun cs => some (.agg cs))
      (dStructT d.und) fun fs => tst (lall (fun f => isSomeB (tt.get f.type)) fs) (ob (fillV (fieldPlaceOf tt fs) z ps) fun cs => some (.agg cs))
/-- the cells of n elements of noughts -/
def rsingle (rs : RL) : Option (Nat × AV) := @List.rec (Nat × AV) (fun _ => Option (Nat × AV)) none (fun x r _ => @List.rec (Nat × AV) (fun _ => Option (Nat × AV)) (some x) (fun _ _ _ => none) r) rs
def zerosV (tt : T Ty) (e : TypeId) (n : Nat) : Option RL :=
  ob (tt.get e) fun d => ob d.zero fun z => ob (cellsOfV z) fun cs => tst (Nat.beq (rlen cs) d.size)
    (oel (some (rrep cs n)) (rsingle cs) fun x => some [(Nat.mul n x.1, x.2)])
def sliceElem (tt : T Ty) (t : TypeId) : Option TypeId := ob (tt.get t) fun d => dSliceT d.und

/- bytes -/
def byteOfI (k : IntKind) (n : Int) : Option Nat := tst (Nat.beq (kcode k) 4) (ob (natOf n) fun m => tst (Nat.blt m 256) (some m))
def byteOfV (v : AV) : Option Nat := ob (dInt v) fun p => byteOfI p.1 p.2
def bytesOfR (rs : RL) : Option (List Nat) := @List.rec (Nat × AV) (fun _ => Option (List Nat)) (some []) (fun x _ ih => ob (byteOfV x.2) fun b => ob ih fun r => some (lrepl b r x.1)) rs
def byteCells (s : List Nat) : RL := lmap (fun b => (1, AV.int .u8 (.ofNat b))) s

/- bounds -/
def inR (lo hi : Nat) (v : AV) : Option Nat := ob (dNat v) fun n => tst (Nat.ble lo n) (tst (Nat.ble n hi) (some n))
def optN (d : Nat) (lo hi : Nat) (v : Option AV) : Option Nat := oel (some d) v fun v => inR lo hi v
def evO (tm : T AV) (x : Option Operand) : Option (Option AV) := oel (some none) x fun x => ob (aev tm x) fun v => some (some v)

/-- Slicing: the new slice. -/
def cutSl (size i off l h m : Nat) : AV := iteB (Nat.beq m l) (.sl i off (Nat.sub h l) (.ex (Nat.sub m l))) (.sl i (Nat.add off (Nat.mul l size)) (Nat.sub h l) (.ex (Nat.sub m l)))
def sliceEx (size i off len c : Nat) (lo hi mx : Option AV) : Option AV :=
  ob (optN c 0 c mx) fun m => ob (optN len 0 m hi) fun h => ob (optN 0 0 h lo) fun l => some (cutSl size i off l h m)
def sliceRest (size i off len k : Nat) (lo hi mx : Option AV) : Option AV :=
  oel (ob (optN len 0 len hi) fun h => ob (optN 0 0 h lo) fun l =>
      iteB (Nat.blt l len) (some (.sl i (Nat.add off (Nat.mul l size)) (Nat.sub h l) (.rest (Nat.add k l)))) (tst (Nat.beq l 0) (some (.sl i off 0 (.rest k)))))
    mx fun v => ob (inR 0 len v) fun m => ob (optN len 0 m hi) fun h => ob (optN 0 0 h lo) fun l => some (cutSl size i off l h m)
def sliceCap (x : Cap) : (Nat → Nat → Nat → Nat → Option AV → Option AV → Option AV → Option AV) :=
  @Cap.rec (fun _ => (Nat → Nat → Nat → Nat → Option AV → Option AV → Option AV → Option AV))
    (fun c => fun size i off len lo hi mx => sliceEx size i off len c lo hi mx)
    (fun k => fun size i off len lo hi mx => sliceRest size i off len k lo hi mx) x

def sliceStr (s : List Nat) (lo hi mx : Option AV) : Option AV :=
  oel (ob (optN (llen s) 0 (llen s) hi) fun h => ob (optN 0 0 h lo) fun l => some (.str (ltake (ldrop s l) (Nat.sub h l)))) mx fun _ => none
def sliceNil (lo hi mx : Option AV) : Option AV := ob (optN 0 0 0 mx) fun m => ob (optN 0 0 m hi) fun h => ob (optN 0 0 h lo) fun _ => some .nsl
def sliceV (tt : T Ty) (t : TypeId) (x : AV) (lo hi mx : Option AV) : Option AV := ob (tt.get t) fun d => tst (orB (notB (isSomeB mx)) (isSomeB hi))
  (oel (oel (oel (tst (isNsl x) (ob (dSliceT d.und) fun e => ob (tsize tt e) fun _ => sliceNil lo hi mx))
      (dStr x) fun s => tst (isStrT d.und) (sliceStr s lo hi mx))
    (dPtr x) fun p => ob (dArrT d.und) fun a => ob (tsize tt a.2) fun size => sliceEx size p.1 p.2 a.1 a.1 lo hi mx)
  (dSl x) fun s => ob (dSliceT d.und) fun e => ob (tsize tt e) fun size => sliceCap s.cap size s.i s.off s.len lo hi mx)
/-- Is it a slice whose base cannot be told: empty, at the end of an appended one. -/
def isRest (x : Cap) : Bool :=
  @Cap.rec (fun _ => Bool)
    (fun _ => false)
    (fun k => true) x

def sliceEnd (tt : T Ty) (t : TypeId) (x : AV) (lo hi mx : Option AV) : Bool := oel false (dSl x) fun s => oel false (sliceElem tt t) fun e =>
  andB (isSomeB (tsize tt e)) (andB (isRest s.cap) (andB (notB (isSomeB mx)) (oel false (optN s.len 0 s.len hi) fun h => oel false (optN 0 0 h lo) fun l => Nat.beq l s.len)))

def elemAt (tt : T Ty) (e : TypeId) (n len i off : Nat) : Option AV := ob (tsize tt e) fun size => tst (Nat.blt n len) (some (.ptr i (Nat.add off (Nat.mul n size))))
def indexAddrV (tt : T Ty) (t : TypeId) (x ix : AV) : Option AV := ob (tt.get t) fun d => ob (dNat ix) fun n =>
  oel (ob (dPtr x) fun p => ob (dArrT d.und) fun a => elemAt tt a.2 n a.1 p.1 p.2)
    (dSl x) fun s => ob (dSliceT d.und) fun e => elemAt tt e n s.len s.i s.off
def indexV (tt : T Ty) (t : TypeId) (x ix : AV) : Option AV := ob (tt.get t) fun d => ob (dNat ix) fun n =>
  oel (ob (dStr x) fun s => tst (isStrT d.und) (ob (lget s n) fun b => some (.int .u8 (.ofNat b))))
    (dAgg x) fun cs => ob (dArrT d.und) fun a => ob (tt.get a.2) fun y => tst (Nat.blt n a.1) (partV y cs (Nat.mul n y.size))
def fieldAddrV (tt : T Ty) (t : TypeId) (x : AV) (k : Nat) : Option AV := ob (dPtr x) fun p => ob (tt.get t) fun d => ob (dStructT d.und) fun fs =>
  ob (lget fs k) fun f => ob (tsize tt f.type) fun s => tst (notB (Nat.beq s 0)) (some (.ptr p.1 (Nat.add p.2 f.offset)))
def fieldV (tt : T Ty) (t : TypeId) (x : AV) (k : Nat) : Option AV := ob (dAgg x) fun cs => ob (tt.get t) fun d => ob (dStructT d.und) fun fs =>
  ob (lget fs k) fun f => ob (tt.get f.type) fun y => partV y cs f.offset

/- maps -/
def keyEq (x y : AV) : Option Bool :=
  oel (ob (dStr x) fun a => ob (dStr y) fun b => some (lbeq a b)) (dInt x) fun p => ob (dInt y) fun q => tst (ikeq p.1 q.1) (some (ieq p.2 q.2))
abbrev Found := Option (Option (Nat × AV))
def findE (k : AV) (es : List Ent) : Nat → Found := @List.rec Ent (fun _ => Nat → Found) (fun _ => some none) (fun e _ ih i => ob (keyEq k e.key) fun b => iteB b (some (some (i, e.val))) (ih (Nat.succ i))) es
def keyKind (d : TypeDesc) (v : AV) : Bool := orB (andB (isSomeB (dIntT d)) (isSomeB (dInt v))) (andB (isStrT d) (isSomeB (dStr v)))
def basicD (d : TypeDesc) : Bool := orB (isSomeB (dIntT d)) (orB (isStrT d) (isBoolT d))
def isEmpty {α : Type} (l : List α) : Bool := @List.rec α (fun _ => Bool) true (fun _ _ _ => false) l
def keyOk (tt : T Ty) (kt : TypeId) (empty : Bool) (v : AV) : Bool := oel false (tt.get kt) fun d =>
  oel (keyKind d.und v) (dAgg v) fun cs => oel false (dStructT d.und) fun fs =>
    andB empty (lall (fun f => oel false (tt.get f.type) fun g => andB (notB g.agg) (andB (basicD g.und) (isSomeB (rget cs f.offset)))) fs)
structure Mq where
  i : Nat
  es : List Ent
  clock : Nat
def mapOf (S : AW) (x : AV) : Option Mq := ob (dMap x) fun i => ob (S.heap.get i) fun o => ob (dMp o) fun m => some ⟨i, m.es, m.clock⟩
def okPair (ok : Bool) (v : AV) (b : Bool) : AV := iteB ok (.tup [v, .bool b]) v
def lookupIn (tt : T Ty) (kt et : TypeId) (es : List Ent) (k : AV) (ok : Bool) : Option AV :=
  tst (keyOk tt kt (isEmpty es) k) (ob (findE k es 0) fun r =>
    oel (ob (tt.get et) fun e => ob e.zero fun z => some (okPair ok z false)) r fun p => some (okPair ok p.2 true))
def lookupV (tt : T Ty) (S : AW) (t : TypeId) (x k : AV) (ok : Bool) : Option AV := ob (tt.get t) fun d => ob (dMapT d.und) fun m =>
  iteB (isNmap x) (lookupIn tt m.1 m.2 [] k ok) (ob (mapOf S x) fun q => lookupIn tt m.1 m.2 q.es k ok)

/- type assertions: of no value, or to a concrete type -/
def assertV (tt : T Ty) (x : AV) (t : TypeId) (ok : Bool) : Option AV := ob (tt.get t) fun d => tst (notB (isIfcT d.und))
  (oel (tst (isNifc x) (tst ok (ob d.zero fun z => some (.tup [z, .bool false]))))
    (dIfc x) fun p => iteB (Nat.beq p.t t) (some (okPair ok p.v true)) (tst ok (ob d.zero fun z => some (.tup [z, .bool false]))))

def lenV (tt : T Ty) (S : AW) (t : TypeId) (x : AV) : Option Nat := ob (tt.get t) fun d =>
  oel (oel (oel (iteB (isNsl x) (ob (dSliceT d.und) fun _ => some 0) (iteB (isNmap x) (ob (dMapT d.und) fun _ => some 0) (ob (dArrT d.und) fun a => some a.1)))
      (dMap x) fun _ => ob (dMapT d.und) fun _ => ob (mapOf S x) fun q => some (llen q.es))
    (dStr x) fun s => tst (isStrT d.und) (some (llen s)))
  (dSl x) fun s => ob (dSliceT d.und) fun _ => some s.len
def exOf (x : Cap) : Option Nat :=
  @Cap.rec (fun _ => Option Nat)
    (fun n => some n)
    (fun _ => none) x

def capV (tt : T Ty) (t : TypeId) (x : AV) : Option Nat := ob (tt.get t) fun d =>
  oel (tst (isNsl x) (ob (dSliceT d.und) fun _ => some 0)) (dSl x) fun s => ob (dSliceT d.und) fun _ => exOf s.cap
def minI (a b : AV) : Option AV := ob (dInt a) fun p => ob (dInt b) fun q => some (.int p.1 (iteB (ilt q.2 p.2) q.2 p.2))
def maxI (a b : AV) : Option AV := ob (dInt a) fun p => ob (dInt b) fun q => some (.int p.1 (iteB (ilt p.2 q.2) q.2 p.2))

/- conversions -/
def isU8 (tt : T Ty) (e : TypeId) : Bool := oel false (tt.get e) fun d => oel false (dIntT d.und) fun k => Nat.beq (kcode k) 4
def bytesToStr (S : AW) (x : AV) : Option AV :=
  oel (tst (isNsl x) (some (.str []))) (dSl x) fun s => iteB (Nat.beq s.len 0) (some (.str [])) (ob (rcells S s.i) fun rs => ob (rext rs s.off s.len) fun r => ob (bytesOfR r) fun b => some (.str b))
def convUnsafe (tt : T Ty) (S : AW) (a b : TypeDesc) (x : AV) : Option AV :=
  iteB (isUnsafeT b)
    (ob (dPtrT a) fun t => oel (tst (isNptr x) (some .nptr)) (dPtr x) fun p => ob (tsize tt t) fun s => tst (notB (Nat.beq s 0)) (ob (rcells S p.1) fun rs => ob (rget rs p.2) fun _ => some x))
    (tst (isUnsafeT a) (ob (dPtrT b) fun u => oel (tst (isNptr x) (some .nptr)) (dPtr x) fun p => tst (Nat.beq p.2 0) (ob (tsize tt u) fun s => tst (notB (Nat.beq s 0))
      (ob (S.heap.get p.1) fun o => ob (dRow o) fun r => tst (notB (isSomeB r.op)) (tst (Nat.beq r.e u) (tst (Nat.beq (rlen r.rs) s) (some x)))))))
def convV (tt : T Ty) (S : AW) (src dst : TypeId) (x : AV) : Option AV := ob (tt.get src) fun a => ob (tt.get dst) fun b =>
  oel (iteB (isStrT b.und)
      (oel (ob (dSliceT a.und) fun e => tst (isU8 tt e) (bytesToStr S x)) (dStr x) fun s => tst (isStrT a.und) (some (.str s)))
      (convUnsafe tt S a.und b.und x))
    (dInt x) fun p => ob (dIntT b.und) fun k => wI k p.2
def sliceToSliceV (tt : T Ty) (S : AW) (src dst : TypeId) (x : AV) : Option AV := tst (Nat.beq src dst) (ob (sliceElem tt dst) fun e => tst (isU8 tt e) (ob (dSl x) fun s => ob (S.heap.get s.i) fun o => ob (dRow o) fun _ => some x))
def isStrTy (tt : T Ty) (t : TypeId) : Bool := oel false (tt.get t) fun d => isStrT d.und
def stringToBytesV (tt : T Ty) (S : AW) (src dst : TypeId) (x : AV) : Option (AV × AW) := ob (dStr x) fun s => tst (isStrTy tt src) (ob (sliceElem tt dst) fun e => tst (isU8 tt e)
  (some (.sl S.next 0 (llen s) (.rest 0), S.add (.cells e (byteCells s) (some 1)))))

def entryV (S : AW) (x : AV) : Option AV := ob (dPtr x) fun p => tst (Nat.beq p.2 0) (ob (S.heap.get p.1) fun o => ob (dMi o) fun q => ob q.m fun m => ob (lget q.seen 0) fun b =>
  ob (S.heap.get m) fun o => ob (dMp o) fun mp => tst (Nat.beq mp.clock q.stepped) (ob (lfind (fun e => Nat.beq e.born b) mp.es) fun e => some (.tup [e.key, e.val])))

/- operations that change nothing: pure ones, and what is read -/
abbrev VH := Cx → T AV → AW → Option AV
def vMove (x : Operand) : VH := fun _ tm _ => aev tm x
def vPick (c a b : Operand) : VH := fun _ tm _ => ob (aev tm c) fun v => ob (dBool v) fun t => iteB t (aev tm a) (aev tm b)
def notNil (v : AV) : Bool := orB (Nat.beq (refKind v) 1) (orB (Nat.beq (refKind v) 5) (Nat.beq (refKind v) 6))
def vNil (x : Operand) : VH := fun _ tm _ => ob (aev tm x) fun v => tst (notNil v) (some v)
def vBin (op : BinOp) (t : TypeId) (x y : Operand) : VH := fun C tm _ => ob (aev tm x) fun a => ob (aev tm y) fun b => binV C op t (orB (isConst x) (isConst y)) a b
def vUn (op : UnOp) (x : Operand) : VH := fun _ tm _ => ob (aev tm x) fun a => unV op a
def vConv (s d : TypeId) (x : Operand) : VH := fun C tm S => ob (aev tm x) fun a => convV C.tt S s d a
def vArr (arr : TypeId) (x : Operand) : VH := fun C tm _ => ob (aev tm x) fun a => ob (dSl a) fun s => ob (C.tt.get arr) fun d => ob (dArrT d.und) fun q => tst (Nat.ble q.1 s.len) (some (.ptr s.i s.off))
def vIfc (t : TypeId) (x : Operand) : VH := fun C tm _ => ob (aev tm x) fun a => ob (C.tt.get t) fun d => tst (notB (isIfcT d.und)) (some (.ifc t a))
def fnFunc (x : Fn) : Option FuncId :=
  @Fn.rec (fun _ => Option FuncId)
    (fun f => some f)
    (fun _ => none)
    (fun _ _ => none)
    (fun _ _ _ _ => none)
    (fun _ => none) x

def vFunc (fn : Fn) (first cap : Array Operand) : VH := fun _ tm _ => ob (fnFunc fn) fun f => ob (lmapO (aev tm) first.toList) fun a => ob (lmapO (aev tm) cap.toList) fun b => some (.fn f a b)
def vBuild (t : TypeId) (ps : Array (Nat × Operand)) : VH := fun C tm _ => ob (partsV tm ps.toList) fun vs => buildV C.tt t vs
def vFieldAddr (t : TypeId) (x : Operand) (k : Nat) : VH := fun C tm _ => ob (aev tm x) fun a => fieldAddrV C.tt t a k
def vField (t : TypeId) (x : Operand) (k : Nat) : VH := fun C tm _ => ob (aev tm x) fun a => fieldV C.tt t a k
def vIndexAddr (t : TypeId) (x i : Operand) : VH := fun C tm _ => ob (aev tm x) fun a => ob (aev tm i) fun b => indexAddrV C.tt t a b
def vIndex (t : TypeId) (x i : Operand) : VH := fun C tm _ => ob (aev tm x) fun a => ob (aev tm i) fun b => indexV C.tt t a b
def vSlice (t : TypeId) (x : Operand) (lo hi mx : Option Operand) : VH := fun C tm _ => ob (aev tm x) fun a => ob (evO tm lo) fun l => ob (evO tm hi) fun h => ob (evO tm mx) fun m => sliceV C.tt t a l h m
def vLoad (t : TypeId) (x : Operand) : VH := fun C tm S => ob (aev tm x) fun a => loadV C.tt S t a
def vLookup (t : TypeId) (x k : Operand) (ok : Bool) : VH := fun C tm S => ob (aev tm x) fun a => ob (aev tm k) fun b => lookupV C.tt S t a b ok
def vEntry (x : Operand) : VH := fun _ tm S => ob (aev tm x) fun a => entryV S a
def vAssert (x : Operand) (t : TypeId) (ok : Bool) : VH := fun C tm _ => ob (aev tm x) fun a => assertV C.tt a t ok
def vExtract (x : Operand) (i : Nat) : VH := fun _ tm _ => ob (aev tm x) fun a => ob (dTup a) fun vs => lget vs i
def vLen (c : Call) : VH := fun C tm S => ob (lget c.argTypes.toList 0) fun t => ob (lget c.args.toList 0) fun x => ob (aev tm x) fun a => ob (lenV C.tt S t a) fun n => some (.int .i64 (.ofNat n))
def vCap (c : Call) : VH := fun C tm _ => ob (lget c.argTypes.toList 0) fun t => ob (lget c.args.toList 0) fun x => ob (aev tm x) fun a => ob (capV C.tt t a) fun n => some (.int .i64 (.ofNat n))
def fold1 (f : AV → AV → Option AV) (l : List AV) : Option AV := @List.rec AV (fun _ => Option AV) none (fun a r _ => lfoldO f r a) l
def vMin (c : Call) : VH := fun _ tm _ => ob (lmapO (aev tm) c.args.toList) fun l => fold1 minI l
def vMax (c : Call) : VH := fun _ tm _ => ob (lmapO (aev tm) c.args.toList) fun l => fold1 maxI l
def vSliceData (c : Call) : VH := fun _ tm _ => tst (Nat.beq (llen c.args.toList) 1) (ob (lget c.args.toList 0) fun x => ob (aev tm x) fun a =>
  oel (tst (isNsl a) (some .nptr)) (dSl a) fun s => tst (notB (Nat.beq s.len 0)) (some (.ptr s.i s.off)))

/- new blocks -/
abbrev NH := Cx → T AV → Nat → Option (AV × AObj)
def nAlloc (t : TypeId) : NH := fun C _ id => ob (C.tt.get t) fun d => ob d.zero fun z => ob (cellsOfV z) fun cs => some (.ptr id 0, .cells t cs none)
def nBox (t : TypeId) (x : Operand) : NH := fun _ tm id => ob (aev tm x) fun v => ob (cellsOfV v) fun cs => some (.ptr id 0, .cells t cs none)
def nBuildSlice (t : TypeId) (len : Nat) (ps : Array (Nat × Operand)) : NH := fun C tm id => ob (sliceElem C.tt t) fun e => ob (tsize C.tt e) fun s => ob (zerosV C.tt e len) fun z => ob (partsV tm ps.toList) fun vs =>
  tst (Nat.ble (Nat.mul len s) 65536) (ob (fillV (elemPlace s) z vs) fun cs => some (.sl id 0 len (.ex len), .cells e cs none))
def nMakeSlice (t : TypeId) (l c : Operand) : NH := fun C tm id => ob (sliceElem C.tt t) fun e => ob (C.tt.get e) fun d => ob (aev tm l) fun a => ob (dNat a) fun l => ob (aev tm c) fun b => ob (dNat b) fun c =>
  tst (Nat.ble l c) (tst (Nat.ble c 1048576) (tst (Nat.ble d.bytes 1048576) (ob (zerosV C.tt e c) fun z => some (.sl id 0 l (.ex c), .cells e z none))))
def isMapT (tt : T Ty) (t : TypeId) : Bool := oel false (tt.get t) fun d => isSomeB (dMapT d.und)
def nMakeMap (t : TypeId) (r : Option Operand) : NH := fun C tm id => oel (some (.map id, .map [] 0)) r fun x => ob (aev tm x) fun a => ob (dInt a) fun _ => tst (isMapT C.tt t) (some (.map id, .map [] 0))
def nSliceEnd (t : TypeId) (x : Operand) (lo hi mx : Option Operand) : NH := fun C tm id => ob (aev tm x) fun a => ob (evO tm lo) fun l => ob (evO tm hi) fun h => ob (evO tm mx) fun m =>
  tst (sliceEnd C.tt t a l h m) (some (.sl id 0 0 (.rest 0), .dead))

/- append -/
def srcCells (S : AW) (size n : Nat) (x : AV) : Option RL :=
  oel (oel (tst (isNsl x) (some [])) (dStr x) fun s => some (byteCells s))
    (dSl x) fun s => iteB (Nat.beq n 0) (some []) (ob (rcells S s.i) fun rs => rext rs s.off (Nat.mul n size))
def lenOfV (x : AV) : Option Nat := oel (oel (tst (isNsl x) (some 0)) (dStr x) fun s => some (llen s)) (dSl x) fun s => some s.len
/-- what is appended: how many elements, and their cells -/
def appended (tt : T Ty) (S : AW) (e : TypeId) (size : Nat) (xt : TypeId) (x : AV) : Option (Nat × RL) :=
  ob (tt.get xt) fun dx => iteB (isSomeB (dIntT dx.und)) (ob (dNat x) fun n => ob (zerosV tt e n) fun z => some (n, z)) (tst (orB (isSomeB (dSliceT dx.und)) (isStrT dx.und)) (ob (lenOfV x) fun n => ob (srcCells S size n x) fun cs => some (n, cs)))
def grown (S : AW) (e : TypeId) (size n : Nat) (cs : RL) : Option (AV × AW) := some (.sl S.next 0 n (.rest 0), S.add (.cells e cs (some size)))
def appEx (S : AW) (e : TypeId) (d : Ty) (n : Nat) (new : RL) (s : Sl) (c : Nat) : Option (AV × AW) :=
  iteB (Nat.ble (Nat.add s.len n) c)
    (ob (storeCellsV S s.i (Nat.add s.off (Nat.mul s.len d.size)) new) fun S' => some (.sl s.i s.off (Nat.add s.len n) (.ex c), S'))
    (ob (srcCells S d.size s.len (.sl s.i s.off s.len (.ex c))) fun old => grown S e d.size (Nat.add s.len n) (lapp old new))
def appRest (S : AW) (e : TypeId) (d : Ty) (n : Nat) (new : RL) (s : Sl) (k : Nat) : Option (AV × AW) :=
  ob (S.heap.get s.i) fun o => ob (dRow o) fun r => ob r.op fun z => tst (Nat.beq z d.size) (tst (Nat.beq (Nat.add s.off k) 0) (tst (Nat.beq r.e e)
    (ob (rext r.rs s.off (Nat.mul s.len d.size)) fun old => grown (S.put s.i .dead) e d.size (Nat.add s.len n) (lapp old new))))
def appCap (x : Cap) : (AW → TypeId → Ty → Nat → RL → Sl → Option (AV × AW)) :=
  @Cap.rec (fun _ => (AW → TypeId → Ty → Nat → RL → Sl → Option (AV × AW)))
    (fun c => fun S e d n new s => appEx S e d n new s c)
    (fun k => fun S e d n new s => appRest S e d n new s k) x

def appendTo (S : AW) (e : TypeId) (d : Ty) (n : Nat) (new : RL) (s : AV) : Option (AV × AW) :=
  tst (Nat.beq (rlen new) (Nat.mul n d.size)) (tst (Nat.ble 1 d.size) (tst (Nat.ble d.bytes 1048576) (tst (Nat.ble n 1048576)
    (iteB (Nat.beq n 0) (tst (orB (isNsl s) (isSomeB (dSl s))) (some (s, S)))
      (oel (tst (isNsl s) (grown S e d.size n new)) (dSl s) fun q => tst (Nat.ble q.len 1048576) (appCap q.cap S e d n new q))))))
def appendV (tt : T Ty) (S : AW) (ts : List TypeId) (args : List AV) : Option (AV × AW) :=
  ob (lget ts 0) fun st => ob (lget ts 1) fun xt => ob (lget args 0) fun s => ob (lget args 1) fun x =>
    ob (sliceElem tt st) fun e => ob (tt.get e) fun d => ob (zerosV tt e 0) fun _ => ob (appended tt S e d.size xt x) fun p => appendTo S e d p.1 p.2 s

def copyTo (S : AW) (size : Nat) (s : Sl) (x : AV) (n : Nat) : Option (AV × AW) :=
  iteB (Nat.beq n 0) (some (.int .i64 (.ofNat 0), S)) (ob (srcCells S size n x) fun cs => tst (Nat.beq (rlen cs) (Nat.mul n size)) (ob (storeCellsV S s.i s.off cs) fun S' => some (.int .i64 (.ofNat n), S')))
def copyV (tt : T Ty) (S : AW) (ts : List TypeId) (args : List AV) : Option (AV × AW) :=
  ob (lget ts 0) fun dt => ob (lget args 0) fun d => ob (lget args 1) fun x => ob (sliceElem tt dt) fun e => ob (tsize tt e) fun size => ob (lenOfV x) fun m =>
    oel (tst (isNsl d) (some (.int .i64 (.ofNat 0), S))) (dSl d) fun s => copyTo S size s (match x with | .str t => .str (ltake t (iteB (Nat.ble m s.len) m s.len)) | x => x) (iteB (Nat.ble m s.len) m s.len)

def one1 {α : Type} (l : List α) : Option α := tst (Nat.beq (llen l) 1) (lget l 0)
def clearV (tt : T Ty) (S : AW) (ts : List TypeId) (args : List AV) : Option (AV × AW) := ob (lget ts 0) fun t => ob (tt.get t) fun _ => ob (one1 args) fun x =>
  oel (tst (orB (isNmap x) (isNsl x)) (some (.tup [], S))) (dMap x) fun i => ob (S.heap.get i) fun o => ob (dMp o) fun m => some (.tup [], S.put i (.map [] m.clock))
def eraseE (l : List Ent) : Nat → List Ent := @List.rec Ent (fun _ => Nat → List Ent) (fun _ => []) (fun e l ih n => @Nat.rec (fun _ => List Ent) l (fun m _ => e :: ih m) n) l
def deleteV (tt : T Ty) (S : AW) (ts : List TypeId) (args : List AV) : Option (AV × AW) :=
  ob (lget ts 0) fun t => ob (lget args 0) fun m => ob (lget args 1) fun k => ob (tt.get t) fun d => ob (dMapT d.und) fun kt => ob (mapOf S m) fun q =>
    tst (keyOk tt kt.1 (isEmpty q.es) k) (ob (findE k q.es 0) fun r => some (.tup [], oel S r fun p => S.put q.i (.map (eraseE q.es p.1) q.clock)))
def setE (es : List Ent) (j : Nat) (v : AV) : List Ent := oel es (lget es j) fun e => lset es j { key := e.key, val := v, born := e.born }
def newE (q : Mq) (k v : AV) : AObj := .map (lapp q.es [{ key := k, val := v, born := q.clock }]) (Nat.succ q.clock)
def mapUpdateV (tt : T Ty) (S : AW) (t : TypeId) (m k v : AV) : Option AW := ob (tt.get t) fun d => ob (dMapT d.und) fun kt => ob (mapOf S m) fun q =>
  tst (keyOk tt kt.1 false k) (ob (findE k q.es 0) fun r => some (S.put q.i (oel (newE q k v) r fun p => .map (setE q.es p.1 v) q.clock)))
def mapEntryV (tt : T Ty) (S : AW) (t : TypeId) (m k : AV) : Option (AV × AW) := ob (tt.get t) fun d => ob (dMapT d.und) fun kt => ob (mapOf S m) fun q =>
  tst (keyOk tt kt.1 false k) (ob (findE k q.es 0) fun r =>
    oel (ob (tt.get kt.2) fun y => ob y.zero fun z => some (.tup [z, .int .i64 (.ofNat q.clock)], S.put q.i (newE q k z)))
      r fun p => ob (lget q.es p.1) fun e => some (.tup [p.2, .int .i64 (.ofNat e.born)], S))
def findBorn (b : Nat) (l : List Ent) : Nat → Option Nat := @List.rec Ent (fun _ => Nat → Option Nat) (fun _ => none) (fun e _ ih i => iteB (Nat.beq e.born b) (some i) (ih (Nat.succ i))) l
def entryStoreV (S : AW) (m s v : AV) : Option AW := ob (mapOf S m) fun q => ob (dNat s) fun b => ob (findBorn b q.es 0) fun j => some (S.put q.i (.map (setE q.es j v) q.clock))

def newIt (S : AW) (o : AObj) : Option (AV × AW) := some (.ptr S.next 0, S.add o)
def rangeV (tt : T Ty) (S : AW) (t : TypeId) (x : AV) : Option (AV × AW) := ob (tt.get t) fun d =>
  oel (oel (tst (isNmap x) (ob (dMapT d.und) fun _ => newIt S (.miter none 0 [] 0)))
      (dStr x) fun s => tst (isStrT d.und) (newIt S (.siter s 0)))
    (dMap x) fun i => ob (dMapT d.und) fun _ => ob (mapOf S x) fun q => newIt S (.miter (some i) q.clock [] q.clock)
def over (S : AW) : Option (AV × AW) := some (.tup [.bool false], S)
def nextStr (S : AW) (i : Nat) (q : Si) : Option (AV × AW) :=
  oel (over S) (lget q.s q.pos) fun b => tst (Nat.blt b 128) (some (.tup [.bool true, .int .i64 (.ofNat q.pos), .int .i32 (.ofNat b)], S.put i (.siter q.s (Nat.succ q.pos))))
/-- the one entry that is left -/
def nextMap (S : AW) (i m : Nat) (q : Mi) (es : List Ent) (clock : Nat) : Option (AV × AW) :=
  tst (notB (andB (notB (isEmpty q.seen)) (andB (notB (isEmpty es)) (lall (fun e => Nat.ble q.stepped e.born) es))))
    ((fun l => oel (over S) (lget l 0) fun e => tst (isEmpty (ldrop l 1)) (tst (Nat.blt e.born q.since)
      (some (.tup [.bool true, e.key, e.val], S.put i (.miter (some m) q.since (e.born :: q.seen) clock))))) (lfilter (fun e => notB (lmem e.born q.seen)) es))
def nextV (S : AW) (x : AV) (isStr : Bool) : Option (AV × AW) := ob (dPtr x) fun p => tst (Nat.beq p.2 0) (ob (S.heap.get p.1) fun o =>
  iteB isStr (ob (dSi o) fun q => nextStr S p.1 q)
    (ob (dMi o) fun q => oel (over S) q.m fun m => ob (S.heap.get m) fun o => ob (dMp o) fun mp => nextMap S p.1 m q mp.es mp.clock))

/-- A string out of a slice's own bytes: they are never written any more. -/
def unsafeStringV (tt : T Ty) (S : AW) (ts : List TypeId) (args : List AV) : Option (AV × AW) := ob (lget ts 0) fun pt => tst (Nat.beq (llen args) 2) (ob (lget args 0) fun p => ob (lget args 1) fun l => ob (dNat l) fun n => tst (Nat.ble n 1048576) (
  iteB (Nat.beq n 0) (tst (orB (isNptr p) (isSomeB (dPtr p))) (some (.str [], S)))
    (ob (dPtr p) fun a => tst (Nat.beq a.2 0) (ob (tt.get pt) fun d => ob (dPtrT d.und) fun u => ob (S.heap.get a.1) fun o => ob (dRow o) fun r => tst (Nat.beq u r.e) (tst (isU8 tt u) (ob (tsize tt u) fun z => tst (Nat.beq z 1)
      (ob (rext r.rs 0 n) fun c => ob (bytesOfR c) fun s => some (.str s, S.put a.1 (.ro r.rs)))))))))

/- acts: what changes memory, calls -/
abbrev AH := Cx → Iv → Option Nat → T AV → AW → Option (AV × AW)
def unitA (r : Option AW) : Option (AV × AW) := ob r fun S => some (.tup [], S)
def aStore (t : TypeId) (a x : Operand) : AH := fun C _ _ tm S => ob (aev tm a) fun p => ob (aev tm x) fun v => unitA (storeV C.tt S t p v)
def aMapUpdate (t : TypeId) (m k x : Operand) : AH := fun C _ _ tm S => ob (aev tm m) fun m => ob (aev tm k) fun k => ob (aev tm x) fun v => unitA (mapUpdateV C.tt S t m k v)
def aMapEntry (t : TypeId) (m k : Operand) : AH := fun C _ _ tm S => ob (aev tm m) fun m => ob (aev tm k) fun k => mapEntryV C.tt S t m k
def aEntryStore (m s x : Operand) : AH := fun _ _ _ tm S => ob (aev tm m) fun m => ob (aev tm s) fun s => ob (aev tm x) fun v => unitA (entryStoreV S m s v)
def aRange (t : TypeId) (x : Operand) : AH := fun C _ _ tm S => ob (aev tm x) fun v => rangeV C.tt S t v
def aNext (it : Operand) (isStr : Bool) : AH := fun _ _ _ tm S => ob (aev tm it) fun v => nextV S v isStr
def aConv (s d : TypeId) (x : Operand) : AH := fun C _ _ tm S => ob (aev tm x) fun v => oel (stringToBytesV C.tt S s d v) (sliceToSliceV C.tt S s d v) fun u => some (u, S)
abbrev BH := Cx → AW → List TypeId → List AV → Option (AV × AW)
def bAppend : BH := fun C S ts args => appendV C.tt S ts args
def bCopy : BH := fun C S ts args => copyV C.tt S ts args
def bClear : BH := fun C S ts args => clearV C.tt S ts args
def bDelete : BH := fun C S ts args => deleteV C.tt S ts args
def bString : BH := fun C S ts args => unsafeStringV C.tt S ts args
def aBuiltin (f : BH) (c : Call) : AH := fun C _ _ tm S => ob (lmapO (aev tm) c.args.toList) fun args => f C S c.argTypes.toList args
def stReady (x : LoopState) : Bool :=
  @LoopState.rec (fun _ => Bool)
    (true)
    (false)
    (false)
    (false) x

def stBusy (x : LoopState) : Bool :=
  @LoopState.rec (fun _ => Bool)
    (false)
    (true)
    (false)
    (false) x

def setParams (ps : List Tmp) (args : List AV) (tm : T AV) : T AV := (lfold (fun (s : T AV × List AV) t => oel s (lget s.2 0) fun v => (s.1.set t v, ldrop s.2 1)) ps (tm, args)).1
def Lp.to (L : Lp) (st : LoopState) (p : Option Code) : AObj := .loop { st := st, pending := p, tm := L.tm, sz := L.sz, params := L.params, assign := L.assign, body := L.body, dfr := L.dfr }
def loopAt (S : AW) (l : Nat) : Option Lp := ob (S.heap.get l) dLp
def exNormal (x : Exit) : Option Unit :=
  @Exit.rec (fun _ => Option Unit)
    (some ())
    (fun _ => none)
    (fun _ => none)
    (none)
    (fun _ => none)
    (none) x

/-- how a round ends -/
def jumpOf (x : Exit) : Option (Option Code) :=
  @Exit.rec (fun _ => Option (Option Code))
    (some none)
    (fun id => some (some (.exit id)))
    (fun _ => none)
    (some (some .ret))
    (fun _ => none)
    (none) x

def endRoundV (l : Nat) (x : Exit) (S : AW) : Option (AV × AW) := ob (jumpOf x) fun j => ob (loopAt S l) fun L =>
  some (oel (.bool true, S.put l (L.to .ready none)) j fun c => (.bool false, S.put l (L.to .done (some c))))
def rsNormal (k : T AV → AW → Option (AV × AW)) (x : Rs) : Option (AV × AW) :=
  @Rs.rec (fun _ => Option (AV × AW))
    (none)
    (fun x tm dfs S => oel none (exNormal x) fun _ => tst (isEmpty dfs) (k tm S)) x

def rsAny (k : Exit → AW → Option (AV × AW)) (x : Rs) : Option (AV × AW) :=
  @Rs.rec (fun _ => Option (AV × AW))
    (none)
    (fun x tm dfs S => k x S) x

def yieldV (R : Iv) (l : Nat) (args : List AV) (S : AW) : Option (AV × AW) := ob (loopAt S l) fun L => tst (stReady L.st) (tst (Nat.beq (llen args) (llen L.params)) (tst (lall (fun t => Nat.blt t L.sz) L.params)
  (rsNormal (fun tm S1 => ob (loopAt S1 l) fun L1 => tst (stReady L1.st)
    (rsAny (fun x S2 => endRoundV l x S2) (R.code L.body (some l) L.sz tm [] (S1.put l (L1.to .busy L1.pending)))))
  (R.code L.assign (some l) L.sz (setParams L.params args L.tm) [] S))))
def aCall (f : Operand) (c : Call) : AH := fun _ R _ tm S => ob (aev tm f) fun g => ob (lmapO (aev tm) c.args.toList) fun args =>
  oel (ob (dYld g) fun l => yieldV R l args S) (dFn g) fun q => R.call q.f (lapp q.first (lapp args q.cap)) S

/- how an operation is done -/
inductive OpH where
  | val (f : VH)
  | rdr (f : VH)
  | new (f : NH)
  | act (f : AH)
  | call (f : Operand) (c : Call)
  | vn (f : VH) (g : NH)
  | va (f : VH) (g : AH)
  | dfr (c : Call)
  | rcv
  | no
abbrev CH := Call → OpH
def hNo : CH := fun _ => .no
def hBuiltin (x : Builtin) : CH :=
  @Builtin.rec (fun _ => CH)
    (fun c => .act (aBuiltin bAppend c))
    (fun c => .val (vCap c))
    (fun c => .act (aBuiltin bClear c))
    (hNo)
    (hNo)
    (fun c => .act (aBuiltin bCopy c))
    (fun c => .act (aBuiltin bDelete c))
    (hNo)
    (fun c => .rdr (vLen c))
    (hNo)
    (fun c => .val (vMax c))
    (fun c => .val (vMin c))
    (hNo)
    (hNo)
    (hNo)
    (hNo)
    (hNo)
    (fun _ => .rcv)
    (hNo)
    (hNo)
    (fun c => .val (vSliceData c))
    (fun c => .act (aBuiltin bString c))
    (hNo)
    (hNo)
    (hNo)
    (hNo) x

def hCallee (x : Callee) : CH :=
  @Callee.rec (fun _ => CH)
    (fun f => fun c => .call f c)
    (fun r m => hNo)
    (fun b => hBuiltin b) x

def opH (x : Op) : OpH :=
  @Op.rec (fun _ => OpH)
    (fun x => .val (vMove x))
    (fun x => .val (vMove x))
    (fun c a b => .val (vPick c a b))
    (fun t => .new (nAlloc t))
    (fun t x => .new (nBox t x))
    (fun t ps => .val (vBuild t ps))
    (fun t n ps => .new (nBuildSlice t n ps))
    (fun t m k x => .act (aMapUpdate t m k x))
    (fun t x => .rdr (vLoad t x))
    (fun t a x => .act (aStore t a x))
    (fun _ => .no)
    (fun _ => .no)
    (fun x => .val (vNil x))
    (fun op t x y u => .val (vBin op t x y))
    (fun op t x => .val (vUn op x))
    (fun s d x => .va (vConv s d x) (aConv s d x))
    (fun t x => .val (vArr t x))
    (fun t x => .val (vIfc t x))
    (fun f a b => .val (vFunc f a b))
    (fun t r => .new (nMakeMap t r))
    (fun _ _ => .no)
    (fun t l c => .new (nMakeSlice t l c))
    (fun t x lo hi mx => .vn (vSlice t x lo hi mx) (nSliceEnd t x lo hi mx))
    (fun t x k => .val (vFieldAddr t x k))
    (fun t x k => .val (vField t x k))
    (fun t x i => .val (vIndexAddr t x i))
    (fun t x i => .val (vIndex t x i))
    (fun t x k ok => .rdr (vLookup t x k ok))
    (fun t m k x => .act (aMapUpdate t m k x))
    (fun t m k => .act (aMapEntry t m k))
    (fun t m s x => .act (aEntryStore m s x))
    (fun t x => .act (aRange t x))
    (fun it b => .act (aNext it b))
    (fun x => .rdr (vEntry x))
    (fun x u t ok => .val (vAssert x t ok))
    (fun x i => .val (vExtract x i))
    (fun c => hCallee c.callee c)
    (fun _ => .no)
    (fun c => .dfr c)
    (fun _ => .no)
    (fun _ _ => .no)
    (fun _ _ _ => .no)
    (fun _ _ => .no) x


/- numbers in a value are worked out as it is kept -/
abbrev FV := (AV → Option (T AV)) → Option (T AV)
def forceI (x : Int) : ((Int → Option (T AV)) → Option (T AV)) :=
  @Int.rec (fun _ => ((Int → Option (T AV)) → Option (T AV)))
    (fun m => fun k => forceN m fun m => k (.ofNat m))
    (fun m => fun k => forceN m fun m => k (.negSucc m)) x

def forceB (x : Bool) : FV :=
  @Bool.rec (fun _ => FV)
    (fun k => k (.bool false))
    (fun k => k (.bool true)) x

def forceC (x : Cap) : ((Cap → Option (T AV)) → Option (T AV)) :=
  @Cap.rec (fun _ => ((Cap → Option (T AV)) → Option (T AV)))
    (fun n => fun k => forceN n fun n => k (.ex n))
    (fun n => fun k => forceN n fun n => k (.rest n)) x

def forceV (x : AV) : FV :=
  @AV.rec (fun _ => FV) (fun _ => Unit) (fun _ => Unit) (fun _ => Unit)
    (fun b => forceB b)
    (fun j n => fun k => forceI n fun n => k (.int j n))
    (fun s => fun k => k (.str s))
    (fun i o => fun k => forceN i fun i => forceN o fun o => k (.ptr i o))
    (fun k => k .nptr)
    (fun i o n c => fun k => forceN i fun i => forceN o fun o => forceN n fun n => forceC c fun c => k (.sl i o n c))
    (fun k => k .nsl)
    (fun i => fun k => k (.map i))
    (fun k => k .nmap)
    (fun i => fun k => k (.chan i))
    (fun k => k .nchan)
    (fun f a b _ _ => fun k => k (.fn f a b))
    (fun i => fun k => k (.yld i))
    (fun k => k .nfn)
    (fun t v _ => fun k => k (.ifc t v))
    (fun k => k .nifc)
    (fun cs _ => fun k => k (.agg cs))
    (fun vs _ => fun k => k (.tup vs))
    (fun n => fun k => k (.opq n))
    () (fun _ _ _ _ => ()) () (fun _ _ _ _ => ()) (fun _ _ _ => ()) x

/- one operation, in order -/
def putT (sz : Nat) (dst : Option Tmp) (v : AV) (tm : T AV) : Option (T AV) := oel (some tm) dst fun d => tst (Nat.blt d sz) (forceV v fun v => some (tm.set d v))
def undefV : AV := .tup []
def guardV (ops : List Oper) (tm : T AV) (g : Nat × Bool) : Option Bool := ob (lget ops g.1) fun o => ob o.dst fun t => ob (tm.get t) fun v =>
  oel (ob (dTup v) fun vs => tst (isEmpty vs) (some false)) (dBool v) fun b => some (beqB b g.2)
def wantedV (ops : List Oper) (tm : T AV) (o : Oper) : Option Bool := oel (some true) o.guard fun g => guardV ops tm g
def fnOfCallee (x : Callee) : Option Operand :=
  @Callee.rec (fun _ => Option Operand)
    (fun f => some f)
    (fun _ _ => none)
    (fun _ => none) x

def deferV (rnd : Option Nat) (c : Call) (tm : T AV) (dfs : List ADef) : Option (List ADef) := tst (notB (isSomeB rnd)) (ob (fnOfCallee c.callee) fun f => ob (aev tm f) fun g => ob (dFn g) fun q =>
  ob (lmapO (aev tm) c.args.toList) fun args => some (.call q.f q.cap (lapp q.first args) :: dfs))

abbrev K := T AV → List ADef → AW → Rs
def orNo {α : Type} (x : Option α) (f : α → Rs) : Rs := oel .no x f
/-- one operation that is wanted -/
abbrev SH := Cx → Iv → Option Nat → Nat → Option Tmp → T AV → List ADef → AW → K → Rs
def sVal (f : VH) : SH := fun C _ _ sz d tm dfs S k => orNo (f C tm S) fun v => orNo (putT sz d v tm) fun tm' => k tm' dfs S
def sNew (f : NH) : SH := fun C _ _ sz d tm dfs S k => forceN S.next fun id => orNo (f C tm id) fun p => orNo (putT sz d p.1 tm) fun tm' => k tm' dfs { heap := S.heap.set id p.2, next := Nat.succ id }
def sAct (f : AH) : SH := fun C R rnd sz d tm dfs S k => orNo (f C R rnd tm S) fun p => orNo (putT sz d p.1 tm) fun tm' => k tm' dfs p.2
def sVn (f : VH) (g : NH) : SH := fun C R rnd sz d tm dfs S k => oel (sNew g C R rnd sz d tm dfs S k) (f C tm S) fun v => orNo (putT sz d v tm) fun tm' => k tm' dfs S
def sVa (f : VH) (g : AH) : SH := fun C R rnd sz d tm dfs S k => oel (sAct g C R rnd sz d tm dfs S k) (f C tm S) fun v => orNo (putT sz d v tm) fun tm' => k tm' dfs S
def sDfr (c : Call) : SH := fun _ _ rnd sz d tm dfs S k => orNo (deferV rnd c tm dfs) fun dfs' => orNo (putT sz d undefV tm) fun tm' => k tm' dfs' S
def sRcv : SH := fun _ _ _ sz d tm dfs S k => orNo (putT sz d .nifc tm) fun tm' => k tm' dfs S
def sNo : SH := fun _ _ _ _ _ _ _ _ _ => .no
def stepH (x : OpH) : SH :=
  @OpH.rec (fun _ => SH)
    (fun f => sVal f)
    (fun f => sVal f)
    (fun f => sNew f)
    (fun f => sAct f)
    (fun f c => sAct (aCall f c))
    (fun f g => sVn f g)
    (fun f g => sVa f g)
    (fun c => sDfr c)
    (sNo)
    (sNo) x

/-- in a deferred call that may recover -/
def stepR (x : OpH) : SH :=
  @OpH.rec (fun _ => SH)
    (fun f => sVal f)
    (fun f => sVal f)
    (fun f => sNew f)
    (fun _ => sNo)
    (fun _ _ => sNo)
    (fun _ _ => sNo)
    (fun _ _ => sNo)
    (fun _ => sNo)
    (sRcv)
    (sNo) x

def isRcv (x : OpH) : Bool :=
  @OpH.rec (fun _ => Bool)
    (fun _ => false)
    (fun _ => false)
    (fun _ => false)
    (fun _ => false)
    (fun _ _ => false)
    (fun _ _ => false)
    (fun _ _ => false)
    (fun _ => false)
    (true)
    (false) x

def stepOp (h : OpH → SH) (C : Cx) (R : Iv) (rnd : Option Nat) (sz : Nat) (ops : List Oper) (o : Oper) (tm : T AV) (dfs : List ADef) (S : AW) (k : K) : Rs :=
  orNo (wantedV ops tm o) fun w => iteB w (h (opH o.op) C R rnd sz o.dst tm dfs S k) (orNo (putT sz o.dst undefV tm) fun tm' => k tm' dfs S)
def doneK : K := fun tm dfs S => .mk .normal tm dfs S
def stepsK (f : Oper → T AV → List ADef → AW → K → Rs) (l : List Oper) : K := @List.rec Oper (fun _ => K) doneK (fun o _ ih tm dfs S => f o tm dfs S ih) l
def regS (C : Cx) (R : Iv) (rnd : Option Nat) (sz : Nat) (ops : List Oper) : K := stepsK (stepOp stepH C R rnd sz ops) ops
def regR (C : Cx) (R : Iv) (sz : Nat) (ops : List Oper) : K := stepsK (stepOp stepR C R none sz ops) ops
def hasRcv (ops : List Oper) : Bool := notB (lall (fun o => notB (isRcv (opH o.op))) ops)

/- a region whose order is drawn -/
def bindsAny (e : Edge) : Bool := match e.ground with
  | .textOnly _ | .gcOnly _ => false
  | _ => true
def tb (m i : Nat) : Bool := Nat.beq (Nat.mod (Nat.div m (Nat.pow 2 i)) 2) 1
/-- masks: what must come ahead of each operation -/
def mask1 (M : T Nat) (m : Nat) (e : Edge) : Nat := iteB (bindsAny e) (Nat.lor (Nat.lor m (Nat.pow 2 e.on)) (oel 0 (M.get e.on) fun x => x)) m
def masks (ops : List Oper) : T Nat := (lfold (fun (s : T Nat × Nat) (o : Oper) => (s.1.set s.2 (lfold (mask1 s.1) o.after.toList 0), Nat.succ s.2)) ops (.e, 0)).1
def bef (M : T Nat) (i j : Nat) : Bool := oel false (M.get j) fun m => tb m i
/-- who writes which temporary; none: two do -/
def writer1 (s : T Nat × Nat) (o : Oper) : Option (T Nat × Nat) := oel (some (s.1, Nat.succ s.2)) o.dst fun d => oel (some (s.1.set d s.2, Nat.succ s.2)) (s.1.get d) fun _ => none
def writers (ops : List Oper) : Option (T Nat × Nat) := lfoldO writer1 ops (.e, 0)
def tmpOf (x : Operand) : Option Nat :=
  @Operand.rec (fun _ => Option Nat)
    (fun t => some t)
    (fun _ => none)
    (fun _ => none)
    (fun _ => none) x

/-- may the operation j look at a temporary whenever it may come up -/
def tmpOk (M W : T Nat) (j : Nat) (x : Operand) : Bool := oel true (tmpOf x) fun t => oel true (W.get t) fun i => orB (bef M i j) (bef M j i)
def namesOk (M W : T Nat) (j : Nat) (o : Oper) : Bool := andB (lall (tmpOk M W j) o.op.operands.toList) (oel true o.guard fun g => bef M g.1 j)

structure Pd where
  j : Nat
  id : Nat
  o : AObj
structure Ac where
  j : Nat
  S : AW
structure Rd where
  j : Nat
  f : VH
  tm : T AV
  v : AV
structure DS where
  tm : T AV
  S : AW
  j : Nat
  pend : List Pd          -- made, not yet laid
  acts : List Ac          -- acts that were done, and memory ahead of each
  reads : List Rd         -- what was read, by which operation

/- are two values the same, as far as it is seen -/
def capSame (c d : Cap) : Bool := @Cap.rec (fun _ => Bool) (fun x => @Cap.rec (fun _ => Bool) (fun y => Nat.beq x y) (fun _ => false) d) (fun x => @Cap.rec (fun _ => Bool) (fun _ => false) (fun y => Nat.beq x y) d) c
def slSame (s t : Sl) : Bool := andB (Nat.beq s.i t.i) (andB (Nat.beq s.off t.off) (andB (Nat.beq s.len t.len) (capSame s.cap t.cap)))
def sameV (x y : AV) : Bool :=
  oel (oel (oel (oel (oel (sameScalar x y)
            (dMap x) fun i => oel false (dMap y) fun j => Nat.beq i j)
          (dSl x) fun s => oel false (dSl y) fun t => slSame s t)
        (dPtr x) fun p => oel false (dPtr y) fun q => andB (Nat.beq p.1 q.1) (Nat.beq p.2 q.2))
      (dStr x) fun a => oel false (dStr y) fun b => lbeq a b)
    (dFn x) fun a => oel false (dFn y) fun b => andB (Nat.beq a.f b.f) (andB (andB (isEmpty a.first) (isEmpty b.first)) (andB (isEmpty a.cap) (isEmpty b.cap)))
def sameR (l : RL) : RL → Bool := @List.rec (Nat × AV) (fun _ => RL → Bool) (fun r => isEmpty r) (fun x _ ih r => oel false (lget r 0) fun y => andB (Nat.beq x.1 y.1) (andB (sameV x.2 y.2) (ih (ldrop r 1)))) l
def sameL (l : List AV) : List AV → Bool := @List.rec AV (fun _ => List AV → Bool) (fun r => isEmpty r) (fun x _ ih r => oel false (lget r 0) fun y => andB (sameV x y) (ih (ldrop r 1))) l
def sameV1 (x y : AV) : Bool :=
  oel (oel (oel (sameV x y)
        (dFn x) fun a => oel false (dFn y) fun b => andB (Nat.beq a.f b.f) (andB (sameL a.first b.first) (sameL a.cap b.cap)))
      (dTup x) fun a => oel false (dTup y) fun b => sameL a b)
    (dAgg x) fun a => oel false (dAgg y) fun b => sameR a b
def optSame (x : Option AV) (y : AV) : Bool := oel false x fun v => sameV1 v y

def layPend (M : T Nat) (j : Nat) (pend : List Pd) (S : AW) : AW := lfold (fun (S : AW) (p : Pd) => iteB (bef M p.j j) (S.put p.id p.o) S) pend S
abbrev DH := Cx → Iv → Option Nat → Nat → Nat → T Nat → Option Tmp → DS → Option DS
def DS.val (s : DS) (tm : T AV) : DS := { tm := tm, S := s.S, j := Nat.succ s.j, pend := s.pend, acts := s.acts, reads := s.reads }
def dVal (f : VH) : DH := fun C _ _ sz _ _ d s => ob (f C s.tm s.S) fun v => ob (putT sz d v s.tm) fun tm => some (s.val tm)
def dRdr (f : VH) : DH := fun C _ _ sz _ M d s => ob (f C s.tm s.S) fun v => ob (putT sz d v s.tm) fun tm =>
  tst (lall (fun (p : Ac) => orB (bef M p.j s.j) (optSame (f C s.tm p.S) v)) s.acts)
    (some { tm := tm, S := s.S, j := Nat.succ s.j, pend := s.pend, acts := s.acts, reads := ⟨s.j, f, s.tm, v⟩ :: s.reads })
def dNew (f : NH) : DH := fun C _ _ sz base _ d s => ob (f C s.tm (Nat.add base s.j)) fun p => ob (putT sz d p.1 s.tm) fun tm =>
  some { tm := tm, S := s.S, j := Nat.succ s.j, pend := ⟨s.j, Nat.add base s.j, p.2⟩ :: s.pend, acts := s.acts, reads := s.reads }
def dAct2 (f : AH) (S0 : AW) : DH := fun C R rnd sz _ M d s => ob (f C R rnd s.tm S0) fun p => ob (putT sz d p.1 s.tm) fun tm =>
  tst (lall (fun (r : Rd) => orB (bef M r.j s.j) (optSame (r.f C r.tm p.2) r.v)) s.reads)
    (some { tm := tm, S := p.2, j := Nat.succ s.j, pend := lfilter (fun q => notB (bef M q.j s.j)) s.pend, acts := ⟨s.j, s.S⟩ :: s.acts, reads := s.reads })
def dAct (f : AH) : DH := fun C R rnd sz base M d s => tst (lall (fun (p : Ac) => bef M p.j s.j) s.acts) (dAct2 f (layPend M s.j s.pend s.S) C R rnd sz base M d s)
def dVn (f : VH) (g : NH) : DH := fun C R rnd sz base M d s => oel (dNew g C R rnd sz base M d s) (f C s.tm s.S) fun v => ob (putT sz d v s.tm) fun tm => some (s.val tm)
def dNo : DH := fun _ _ _ _ _ _ _ _ => none
def drawH (x : OpH) : DH :=
  @OpH.rec (fun _ => DH)
    (fun f => dVal f)
    (fun f => dRdr f)
    (fun f => dNew f)
    (fun f => dAct f)
    (fun f c => dAct (aCall f c))
    (fun f g => dVn f g)
    (fun f g => dRdr f)
    (fun _ => dNo)
    (dNo)
    (dNo) x

def stepD (C : Cx) (R : Iv) (rnd : Option Nat) (sz : Nat) (ops : List Oper) (base : Nat) (M W : T Nat) (s : DS) (o : Oper) : Option DS :=
  tst (andB (namesOk M W s.j o) (lall (fun e => orB (notB (bindsAny e)) (Nat.blt e.on s.j)) o.after.toList)) (ob (wantedV ops s.tm o) fun w => iteB w (drawH (opH o.op) C R rnd sz base M o.dst s) (ob (putT sz o.dst undefV s.tm) fun tm => some (s.val tm)))
def regD (C : Cx) (R : Iv) (rnd : Option Nat) (sz : Nat) (ops : List Oper) : K := fun tm dfs S => orNo (writers ops) fun W =>
  orNo (lfoldO (stepD C R rnd sz ops S.next (masks ops) W.1) ops { tm := tm, S := { heap := S.heap, next := Nat.add S.next W.2 }, j := 0, pend := [], acts := [], reads := [] }) fun s =>
    .mk .normal s.tm dfs (lfold (fun (S : AW) (p : Pd) => S.put p.id p.o) s.pend s.S)

/- code -/
def exId (x : Exit) : Option Nat :=
  @Exit.rec (fun _ => Option Nat)
    (none)
    (fun id => some id)
    (fun _ => none)
    (none)
    (fun _ => none)
    (none) x

/-- go on where it ended normally -/
def rsThen (k : K) (x : Rs) : Rs :=
  @Rs.rec (fun _ => Rs)
    (.no)
    (fun x tm dfs S => oel (.mk x tm dfs S) (exNormal x) fun _ => k tm dfs S) x

def rsBlock (id : Nat) (x : Rs) : Rs :=
  @Rs.rec (fun _ => Rs)
    (.no)
    (fun x tm dfs S => oel (.mk x tm dfs S) (exId x) fun i => iteB (Nat.beq i id) (.mk .normal tm dfs S) (.mk x tm dfs S)) x

def isGoto (x : Exit) : Bool :=
  @Exit.rec (fun _ => Bool)
    (false)
    (fun _ => false)
    (fun l => true)
    (false)
    (fun _ => false)
    (false) x

def rsScope (x : Rs) : Rs :=
  @Rs.rec (fun _ => Rs)
    (.no)
    (fun x tm dfs S => iteB (isGoto x) .no (.mk x tm dfs S)) x

abbrev KH := Cx → Iv → Nat → Option Nat → Nat → K
def loopK (b : K) (n : Nat) : K := @Nat.rec (fun _ => K) (fun _ _ _ => .no) (fun _ ih tm dfs S => rsThen ih (b tm dfs S)) n
structure Ent3 where
  l : Nat
  dfs : List ADef
  S : AW
def newLoop (ps : Array Tmp) (assign body : Code) (tm : T AV) (sz dfr : Nat) : AObj := .loop { st := .ready, pending := none, tm := tm, sz := sz, params := ps.toList, assign := assign, body := body, dfr := dfr }
def enterLoopV (rnd : Option Nat) (ps : Array Tmp) (assign body : Code) (tm : T AV) (sz : Nat) (dfs : List ADef) (S : AW) : Option Ent3 :=
  oel (some ⟨Nat.succ S.next, .mark S.next :: dfs, (S.add (.dfr false)).add (newLoop ps assign body tm sz S.next)⟩)
    rnd fun l => ob (loopAt S l) fun L => some ⟨S.next, dfs, S.add (newLoop ps assign body tm sz L.dfr)⟩
def rangeK (g : Operand) (ps : Array Tmp) (assign body : Code) : KH := fun C R _ rnd sz tm dfs S =>
  orNo (aev tm g) fun v => orNo (ob (dFn v) fun q => tst (notB (isSomeB (C.ext q.f))) (some q)) fun q => orNo (enterLoopV rnd ps assign body tm sz dfs S) fun E => orNo (R.call q.f (lapp q.first (.yld E.l :: q.cap)) E.S) fun p => orNo (loopAt p.2 E.l) fun L =>
    iteB (stBusy L.st) .no (oel (.mk .normal tm E.dfs (p.2.put E.l (L.to .exhausted L.pending))) L.pending fun c => R.code c rnd sz tm E.dfs (p.2.put E.l (L.to .exhausted L.pending)))
def codeK (c : Code) : KH := @Code.rec (fun _ => KH)
  (fun _ _ _ _ _ tm dfs S => .mk .normal tm dfs S)
  (fun _ ops draw C R _ rnd sz => iteB draw (regD C R rnd sz ops.toList) (regS C R rnd sz ops.toList))
  (fun _ _ x y C R n rnd sz tm dfs S => rsThen (y C R n rnd sz) (x C R n rnd sz tm dfs S))
  (fun c _ _ x y C R n rnd sz tm dfs S => orNo (aev tm c) fun v => orNo (dBool v) fun t => iteB t (x C R n rnd sz tm dfs S) (y C R n rnd sz tm dfs S))
  (fun id _ x C R n rnd sz tm dfs S => rsBlock id (x C R n rnd sz tm dfs S))
  (fun _ x C R n rnd sz => loopK (x C R n rnd sz) n)
  (fun g ps assign body _ _ => rangeK g ps assign body)
  (fun id _ _ _ _ _ tm dfs S => .mk (.exit id) tm dfs S)
  (fun _ x C R n rnd sz tm dfs S => rsScope (x C R n rnd sz tm dfs S))
  (fun _ _ _ _ _ _ tm dfs S => .mk .normal tm dfs S)
  (fun _ _ _ _ _ _ _ _ _ => .no)
  (fun _ _ _ _ _ tm dfs S => .mk .ret tm dfs S)
  (fun _ _ _ _ _ _ _ _ _ => .no) c
/-- the body of a deferred call: it may recover, in a row, behind a row, in an arm -/
def regDc (id : Nat) (ops : Array Oper) (draw : Bool) : KH := fun C R n rnd sz => iteB (hasRcv ops.toList) (iteB draw (fun _ _ _ => .no) (regR C R sz ops.toList)) (codeK (.region id ops draw) C R n rnd sz)
def codeD (c : Code) : KH := @Code.rec (fun _ => KH)
  (codeK .skip)
  (fun id ops draw => regDc id ops draw)
  (fun _ _ x y C R n rnd sz tm dfs S => rsThen (y C R n rnd sz) (x C R n rnd sz tm dfs S))
  (fun c _ _ x y C R n rnd sz tm dfs S => orNo (aev tm c) fun v => orNo (dBool v) fun t => iteB t (x C R n rnd sz tm dfs S) (y C R n rnd sz tm dfs S))
  (fun id x _ => codeK (.block id x))
  (fun x _ => codeK (.loop x))
  (fun g ps assign body _ _ => codeK (.rangeFunc g ps assign body))
  (fun id => codeK (.exit id))
  (fun x _ => codeK (.scope x))
  (fun l => codeK (.label l))
  (fun l => codeK (.goto l))
  (codeK .ret)
  (fun l => codeK (.refuse l)) c

/- calls -/
def resultX (x : ResultVar) : (T Ty → T AV → AW → Option AV) :=
  @ResultVar.rec (fun _ => (T Ty → T AV → AW → Option AV))
    (fun t => fun _ tm _ => tm.get t)
    (fun p t => fun tt tm S => ob (tm.get p) fun v => loadV tt S t v) x

def resultsV (tt : T Ty) (fn : Func) (tm : T AV) (S : AW) : Option AV := ob (lmapO (fun r => resultX r tt tm S) fn.results.toList) fun vs => some (oel (.tup vs) (one1 vs) fun v => v)
def argTm (args : List AV) : T AV := (lfold (fun (s : T AV × Nat) v => (s.1.set s.2 v, Nat.succ s.2)) args (.e, 0)).1
def frameSz (fn : Func) (args : List AV) : Nat := (fun n => iteB (Nat.ble fn.ntmps n) n fn.ntmps) (llen args)
def isOut (x : Exit) : Bool :=
  @Exit.rec (fun _ => Bool)
    (true)
    (fun _ => false)
    (fun _ => false)
    (true)
    (fun _ => false)
    (false) x

def rsDc (C : Cx) (fn : Func) (x : Rs) : Option AW :=
  @Rs.rec (fun _ => Option AW)
    (none)
    (fun x tm dfs S => tst (isOut x) (tst (isEmpty dfs) (ob (resultsV C.tt fn tm S) fun _ => some S))) x

def dcallV (C : Cx) (R : Iv) (f : FuncId) (args : List AV) (S : AW) : Option AW := ob (C.fns.get f) fun fn => ob fn.body fun c => rsDc C fn (R.dcode c (frameSz fn args) (argTm args) [] S)
def leaveX (x : ADef) : (Cx → Iv → AW → Option AW) :=
  @ADef.rec (fun _ => (Cx → Iv → AW → Option AW))
    (fun i => fun _ _ S => ob (S.heap.get i) fun o => ob (dDfr o) fun b => tst (notB b) (some (S.put i (.dfr true))))
    (fun f cap args => fun C R S => dcallV C R f (lapp args cap) S) x

def rsCall (C : Cx) (R : Iv) (fn : Func) (x : Rs) : Option (AV × AW) :=
  @Rs.rec (fun _ => Option (AV × AW))
    (none)
    (fun x tm dfs S => tst (isOut x) (ob (lfoldO (fun S d => leaveX d C R S) dfs S) fun S2 => ob (resultsV C.tt fn tm S2) fun v => some (v, S2))) x

def idxB1 (c : Nat) (p : Option Nat × Nat) (b : Nat) : Option Nat × Nat := (oel (iteB (Nat.beq b c) (some p.2) none) p.1 fun i => some i, Nat.succ p.2)
def idxB (c : Nat) (s : List Nat) : Int := oel (.negSucc 0) (lfold (idxB1 c) s (none, 0)).1 fun i => .ofNat i
def extV (x : Ext) : (List AV → Option AV) :=
  @Ext.rec (fun _ => (List AV → Option AV))
    (fun args => one1 args)
    (fun args => tst (Nat.beq (llen args) 2) (ob (lget args 0) fun a => ob (dStr a) fun s => ob (lget args 1) fun c => ob (byteOfV c) fun b => some (.int .i64 (idxB b s)))) x

def callF (C : Cx) (R : Iv) (f : FuncId) (args : List AV) (S : AW) : Option (AV × AW) :=
  oel (oel (ob (C.fns.get f) fun fn => ob fn.body fun c => rsCall C R fn (R.code c none (frameSz fn args) (argTm args) [] S))
    (C.ext f) fun x => ob (extV x args) fun v => some (v, S)) (C.pr f) fun p => p args S

def iv0 : Iv := ⟨fun _ _ _ _ _ _ => .no, fun _ _ _ => none, fun _ _ _ _ _ => .no⟩
def ivS (C : Cx) (n : Nat) (R : Iv) : Iv := ⟨fun c rnd sz => codeK c C R n rnd sz, callF C R, fun c sz => codeD c C R n none sz⟩
def iv (C : Cx) (loops n : Nat) : Iv := nrec iv0 (ivS C loops) n
end
end Go.Ev
