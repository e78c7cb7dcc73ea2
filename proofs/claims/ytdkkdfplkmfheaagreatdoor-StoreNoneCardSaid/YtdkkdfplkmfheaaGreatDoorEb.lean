/- What the evaluator's values and blocks stand for; its operations are true to the model. -/
import Derived.Test.YtdkkdfplkmfheaaGreatDoorEa
import Derived.CallsIn
import Derived.OrdersIn
import Derived.RangeFuncLeaves
import Derived.RecoverIn
import Derived.WalkKit
import Derived.IntWalk
import Derived.MapKept
import Derived.Laws.BytesString
import Derived.Lib.Builder
import Derived.Laws.Tables
set_option linter.unusedSimpArgs false
set_option linter.unusedVariables false
namespace Go.Ev

structure Loc where
  blk : Nat
  off : Nat
  cap : Nat

structure Env where
  loc : Nat → Option Loc
  om : Nat → Value

def cellVal : Value → Prop
  | .agg _ | .tuple _ => False
  | _ => True

def bytesV (s : List Nat) : Value := .string ⟨(s.map UInt8.ofNat).toArray⟩

mutual
def VR (E : Env) : AV → Value → Prop
  | .bool b, v => v = .bool b
  | .int k n, v => v = .int k n
  | .str s, v => v = bytesV s ∧ ∀ x ∈ s, x < 256
  | .ptr i o, v => ∃ l, E.loc i = some l ∧ v = .pointer (some ⟨l.blk, l.off + o, none⟩)
  | .nptr, v => v = .pointer none
  | .sl i o n (.ex c), v => ∃ l, E.loc i = some l ∧ n ≤ c ∧ v = .slice (some ⟨l.blk, l.off + o, none⟩) n c
  | .sl i o n (.rest k), v => ∃ l, E.loc i = some l ∧ n + k ≤ l.cap ∧ v = .slice (some ⟨l.blk, l.off + o, none⟩) n (l.cap - k)
  | .nsl, v => v = .slice none 0 0
  | .map i, v => ∃ l, E.loc i = some l ∧ v = .map (some l.blk)
  | .nmap, v => v = .map none
  | .chan i, v => ∃ l, E.loc i = some l ∧ v = .chan (some l.blk)
  | .nchan, v => v = .chan none
  | .fn f a b, v => ∃ xs ys : List Value, v = .func (.func f) xs.toArray ys.toArray ∧ VRL E a xs ∧ VRL E b ys
  | .yld i, v => ∃ l, E.loc i = some l ∧ v = .func (.yield l.blk) #[] #[]
  | .nfn, v => v = .nilFunc
  | .ifc t a, v => ∃ x, v = .iface t x ∧ VR E a x
  | .nifc, v => v = .nilIface
  | .agg cs, v => ∃ xs : List Value, v = .agg xs.toArray ∧ VRR E cs xs
  | .tup vs, v => ∃ xs : List Value, v = .tuple xs.toArray ∧ VRL E vs xs
  | .opq k, v => v = E.om k ∧ cellVal v
def VRL (E : Env) : List AV → List Value → Prop
  | [], l => l = []
  | a :: as, l => ∃ x r, l = x :: r ∧ VR E a x ∧ VRL E as r
def VRR (E : Env) : List (Nat × AV) → List Value → Prop
  | [], l => l = []
  | (n, a) :: r, l => ∃ p q, l = p ++ q ∧ p.length = n ∧ (∀ x ∈ p, VR E a x ∧ cellVal x) ∧ VRR E r q
end

/-- One environment goes on from another. -/
structure Le (E E' : Env) : Prop where
  loc : ∀ i l, E.loc i = some l → E'.loc i = some l
  om : E'.om = E.om
theorem Le.refl (E : Env) : Le E E := ⟨fun _ _ h => h, rfl⟩
theorem Le.trans {A B C : Env} (h : Le A B) (k : Le B C) : Le A C := ⟨fun i l x => k.loc i l (h.loc i l x), k.om.trans h.om⟩

mutual
theorem VR.mono {E E' : Env} (h : Le E E') : ∀ (a : AV) (v : Value), VR E a v → VR E' a v
  | .bool _, _, x => by simpa [VR] using x
  | .int _ _, _, x => by simpa [VR] using x
  | .str _, _, x => by simpa [VR] using x
  | .ptr _ _, _, x => by simp only [VR] at x ⊢; obtain ⟨l, hl, e⟩ := x; exact ⟨l, h.loc _ _ hl, e⟩
  | .nptr, _, x => by simpa [VR] using x
  | .sl _ _ _ (.ex _), _, x => by simp only [VR] at x ⊢; obtain ⟨l, hl, e⟩ := x; exact ⟨l, h.loc _ _ hl, e⟩
  | .sl _ _ _ (.rest _), _, x => by simp only [VR] at x ⊢; obtain ⟨l, hl, e⟩ := x; exact ⟨l, h.loc _ _ hl, e⟩
  | .nsl, _, x => by simpa [VR] using x
  | .map _, _, x => by simp only [VR] at x ⊢; obtain ⟨l, hl, e⟩ := x; exact ⟨l, h.loc _ _ hl, e⟩
  | .nmap, _, x => by simpa [VR] using x
  | .chan _, _, x => by simp only [VR] at x ⊢; obtain ⟨l, hl, e⟩ := x; exact ⟨l, h.loc _ _ hl, e⟩
  | .nchan, _, x => by simpa [VR] using x
  | .fn _ a b, _, x => by simp only [VR] at x ⊢; obtain ⟨p, q, e, ha, hb⟩ := x; exact ⟨p, q, e, VRL.mono h a p ha, VRL.mono h b q hb⟩
  | .yld _, _, x => by simp only [VR] at x ⊢; obtain ⟨l, hl, e⟩ := x; exact ⟨l, h.loc _ _ hl, e⟩
  | .nfn, _, x => by simpa [VR] using x
  | .ifc _ a, _, x => by simp only [VR] at x ⊢; obtain ⟨y, e, ha⟩ := x; exact ⟨y, e, VR.mono h a y ha⟩
  | .nifc, _, x => by simpa [VR] using x
  | .agg cs, _, x => by simp only [VR] at x ⊢; obtain ⟨p, e, ha⟩ := x; exact ⟨p, e, VRR.mono h cs p ha⟩
  | .tup vs, _, x => by simp only [VR] at x ⊢; obtain ⟨p, e, ha⟩ := x; exact ⟨p, e, VRL.mono h vs p ha⟩
  | .opq _, _, x => by simp only [VR] at x ⊢; rw [h.om]; exact x
theorem VRL.mono {E E' : Env} (h : Le E E') : ∀ (as : List AV) (vs : List Value), VRL E as vs → VRL E' as vs
  | [], _, x => by simpa [VRL] using x
  | a :: as, _, x => by simp only [VRL] at x ⊢; obtain ⟨y, r, e, ha, hr⟩ := x; exact ⟨y, r, e, VR.mono h a y ha, VRL.mono h as r hr⟩
theorem VRR.mono {E E' : Env} (h : Le E E') : ∀ (rs : List (Nat × AV)) (vs : List Value), VRR E rs vs → VRR E' rs vs
  | [], _, x => by simpa [VRR] using x
  | (_, a) :: r, _, x => by simp only [VRR] at x ⊢; obtain ⟨p, q, e, hn, hp, hq⟩ := x; exact ⟨p, q, e, hn, fun y hy => ⟨VR.mono h a y (hp y hy).1, (hp y hy).2⟩, VRR.mono h r q hq⟩
end

/-- Cells, one by one. -/
def CR (E : Env) (as : List AV) (vs : List Value) : Prop := as.length = vs.length ∧ ∀ (i : Nat) (a : AV) (v : Value), as[i]? = some a → vs[i]? = some v → VR E a v ∧ cellVal v
def LR (E : Env) (as : List AV) (vs : List Value) : Prop := as.length = vs.length ∧ ∀ (i : Nat) (a : AV) (v : Value), as[i]? = some a → vs[i]? = some v → VR E a v

theorem CR.mono {E E' : Env} (h : Le E E') {as : List AV} {vs : List Value} (x : CR E as vs) : CR E' as vs :=
  ⟨x.1, fun i a v ha hv => ⟨VR.mono h a v (x.2 i a v ha hv).1, (x.2 i a v ha hv).2⟩⟩
theorem CR.nil (E : Env) : CR E [] [] := ⟨rfl, fun i a v h => by simp at h⟩
theorem CR.append {E : Env} {a b : List AV} {p q : List Value} (h : CR E a p) (k : CR E b q) : CR E (a ++ b) (p ++ q) := by
  refine ⟨by simp [h.1, k.1], fun i x v hx hv => ?_⟩
  rcases Nat.lt_or_ge i a.length with hi | hi
  · rw [List.getElem?_append_left hi] at hx
    rw [List.getElem?_append_left (h.1 ▸ hi)] at hv
    exact h.2 i x v hx hv
  · rw [List.getElem?_append_right hi] at hx
    rw [List.getElem?_append_right (h.1 ▸ hi), ← h.1] at hv
    exact k.2 _ x v hx hv
theorem CR.take {E : Env} {a : List AV} {p : List Value} (h : CR E a p) (n : Nat) : CR E (a.take n) (p.take n) := by
  refine ⟨by simp [h.1], fun i x v hx hv => ?_⟩
  rw [List.getElem?_take] at hx hv
  split at hx
  · rename_i hi; rw [if_pos hi] at hv; exact h.2 i x v hx hv
  · cases hx
theorem CR.drop {E : Env} {a : List AV} {p : List Value} (h : CR E a p) (n : Nat) : CR E (a.drop n) (p.drop n) := by
  refine ⟨by simp [h.1], fun i x v hx hv => ?_⟩
  rw [List.getElem?_drop] at hx hv
  exact h.2 _ x v hx hv
theorem CR.split {E : Env} {a b : List AV} {vs : List Value} (h : CR E (a ++ b) vs) : ∃ p q, vs = p ++ q ∧ CR E a p ∧ CR E b q := by
  refine ⟨vs.take a.length, vs.drop a.length, (List.take_append_drop _ _).symm, ?_, ?_⟩
  · have := h.take a.length; simpa using this
  · have := h.drop a.length; simpa using this
theorem CR.repl {E : Env} {n : Nat} {a : AV} {p : List Value} : CR E (List.replicate n a) p ↔ p.length = n ∧ ∀ x ∈ p, VR E a x ∧ cellVal x := by
  constructor
  · intro h
    refine ⟨by simpa using h.1.symm, fun x hx => ?_⟩
    obtain ⟨i, hi, rfl⟩ := List.getElem_of_mem hx
    have hn : i < n := by have := h.1; simp at this; omega
    exact h.2 i a _ (by simp [hn]) (by simp [hi])
  · rintro ⟨hn, h⟩
    refine ⟨by simp [hn], fun i x v hx hv => ?_⟩
    rw [List.getElem?_replicate] at hx
    split at hx
    · cases hx; exact h v (List.mem_of_getElem? hv)
    · cases hx
theorem CR.get {E : Env} {a : List AV} {p : List Value} (h : CR E a p) {i : Nat} {x : AV} (hx : a[i]? = some x) : ∃ v, p[i]? = some v ∧ VR E x v ∧ cellVal v := by
  have hi : i < p.length := by have := (List.getElem?_eq_some_iff.1 hx).1; have := h.1; omega
  exact ⟨p[i], by simp [hi], h.2 i x _ hx (by simp [hi])⟩
theorem VRR_iff {E : Env} : ∀ {rs : List (Nat × AV)} {vs : List Value}, VRR E rs vs ↔ CR E (rflat rs) vs := by
  intro rs
  induction rs with
  | nil => intro vs; simp only [VRR, rflat_nil]; constructor
           · rintro rfl; exact CR.nil E
           · intro h; exact List.eq_nil_of_length_eq_zero h.1.symm
  | cons x rs ih =>
    intro vs
    obtain ⟨n, a⟩ := x
    simp only [VRR, rflat_cons]
    constructor
    · rintro ⟨p, q, rfl, hn, hp, hq⟩
      exact (CR.repl.2 ⟨hn, hp⟩).append (ih.1 hq)
    · intro h
      obtain ⟨p, q, e, hp, hq⟩ := h.split
      exact ⟨p, q, e, (CR.repl.1 hp).1, (CR.repl.1 hp).2, ih.2 hq⟩
theorem LR.nil (E : Env) : LR E [] [] := ⟨rfl, fun i a v h => by simp at h⟩
theorem LR.cons {E : Env} {a : AV} {v : Value} {as : List AV} {vs : List Value} (h : VR E a v) (k : LR E as vs) : LR E (a :: as) (v :: vs) := by
  refine ⟨by simp [k.1], fun i x y hx hy => ?_⟩
  cases i with
  | zero => simp at hx hy; subst hx; subst hy; exact h
  | succ i => exact k.2 i x y (by simpa using hx) (by simpa using hy)
theorem LR.mono {E E' : Env} (h : Le E E') {as : List AV} {vs : List Value} (x : LR E as vs) : LR E' as vs := ⟨x.1, fun i a v ha hv => VR.mono h a v (x.2 i a v ha hv)⟩
theorem LR.append {E : Env} {a b : List AV} {p q : List Value} (h : LR E a p) (k : LR E b q) : LR E (a ++ b) (p ++ q) := by
  refine ⟨by simp [h.1, k.1], fun i x v hx hv => ?_⟩
  rcases Nat.lt_or_ge i a.length with hi | hi
  · rw [List.getElem?_append_left hi] at hx
    rw [List.getElem?_append_left (h.1 ▸ hi)] at hv
    exact h.2 i x v hx hv
  · rw [List.getElem?_append_right hi] at hx
    rw [List.getElem?_append_right (h.1 ▸ hi), ← h.1] at hv
    exact k.2 _ x v hx hv
theorem LR.get {E : Env} {a : List AV} {p : List Value} (h : LR E a p) {i : Nat} {x : AV} (hx : a[i]? = some x) : ∃ v, p[i]? = some v ∧ VR E x v := by
  have hi : i < p.length := by have := (List.getElem?_eq_some_iff.1 hx).1; have := h.1; omega
  exact ⟨p[i], by simp [hi], h.2 i x _ hx (by simp [hi])⟩
theorem VRL_iff {E : Env} : ∀ {as : List AV} {vs : List Value}, VRL E as vs ↔ LR E as vs := by
  intro as
  induction as with
  | nil => intro vs; simp only [VRL]; constructor
           · rintro rfl; exact LR.nil E
           · intro h; exact List.eq_nil_of_length_eq_zero h.1.symm
  | cons a as ih =>
    intro vs
    simp only [VRL]
    constructor
    · rintro ⟨x, r, rfl, hx, hr⟩; exact LR.cons hx (ih.1 hr)
    · intro h
      cases vs with
      | nil => simp [LR] at h
      | cons x r => exact ⟨x, r, rfl, h.2 0 a x rfl rfl, ih.2 ⟨by simpa using h.1, fun i y z hy hz => h.2 (i + 1) y z (by simpa using hy) (by simpa using hz)⟩⟩

/-- Temporaries. -/
def TR (E : Env) (sz : Nat) (tm : T AV) (tmps : Array Value) : Prop := tmps.size = sz ∧ ∀ t a, tm.get t = some a → VR E a (tmps.getD t undef)
theorem TR.mono {E E' : Env} (h : Le E E') {sz : Nat} {tm : T AV} {tmps : Array Value} (x : TR E sz tm tmps) : TR E' sz tm tmps := ⟨x.1, fun t a ha => VR.mono h a _ (x.2 t a ha)⟩

/-- Entries of a map. -/
def ER (E : Env) (es : List Ent) (ms : List MapEntry) : Prop := es.length = ms.length ∧ ∀ (i : Nat) (e : Ent) (m : MapEntry), es[i]? = some e → ms[i]? = some m → VR E e.key m.key ∧ VR E e.val m.val ∧ m.born = e.born
theorem ER.mono {E E' : Env} (h : Le E E') {es : List Ent} {ms : List MapEntry} (x : ER E es ms) : ER E' es ms :=
  ⟨x.1, fun i e m he hm => let ⟨a, b, c⟩ := x.2 i e m he hm; ⟨VR.mono h _ _ a, VR.mono h _ _ b, c⟩⟩

/-- Deferred calls. -/
def DR1 (E : Env) : ADef → Deferred → Prop
  | .mark i, d => ∃ l, E.loc i = some l ∧ d = { target := .collected l.blk, args := #[] }
  | .call f cap args, d => ∃ xs ys : List Value, d = { target := .fn (.func f) xs.toArray, args := ys.toArray } ∧ LR E cap xs ∧ LR E args ys
theorem DR1.mono {E E' : Env} (h : Le E E') {a : ADef} {d : Deferred} (x : DR1 E a d) : DR1 E' a d := by
  cases a with
  | mark i => obtain ⟨l, hl, e⟩ := x; exact ⟨l, h.loc _ _ hl, e⟩
  | call f cap args => obtain ⟨xs, ys, e, h1, h2⟩ := x; exact ⟨xs, ys, e, h1.mono h, h2.mono h⟩
def DR (E : Env) : List ADef → List Deferred → Prop
  | [], l => l = []
  | a :: as, l => ∃ d r, l = d :: r ∧ DR1 E a d ∧ DR E as r
theorem DR.mono {E E' : Env} (h : Le E E') : ∀ {as : List ADef} {ds : List Deferred}, DR E as ds → DR E' as ds
  | [], _, x => x
  | _ :: _, _, ⟨d, r, e, h1, h2⟩ => ⟨d, r, e, h1.mono h, DR.mono h h2⟩

/-- A block. -/
def OR (E : Env) (w : World) (l : Loc) : AObj → Prop
  | .cells e rs op => ∃ (pre mid post : List Value) (fr : Nat × Nat), w.heap[l.blk]? = some (.cells (pre ++ mid ++ post).toArray e fr) ∧ pre.length = l.off ∧ CR E (rflat rs) mid ∧
      (fr.2 = fr.1 ∨ (pre ++ mid ++ post).length ≤ fr.1) ∧ (match op with | none => pre = [] ∧ post = [] | some z => pre = [] ∧ l.cap * z ≤ (mid ++ post).length)
  | .ro rs => ∃ (pre mid post : List Value) (e : TypeId) (fr : Nat × Nat), w.heap[l.blk]? = some (.cells (pre ++ mid ++ post).toArray e fr) ∧ pre.length = l.off ∧ CR E (rflat rs) mid
  | .map es c => ∃ ms : List MapEntry, w.heap[l.blk]? = some (.map ms.toArray c) ∧ ER E es ms
  | .siter s p => l.off = 0 ∧ w.heap[l.blk]? = some (.stringIter ⟨(s.map UInt8.ofNat).toArray⟩ p) ∧ ∀ x ∈ s, x < 256
  | .miter m a seen st => l.off = 0 ∧ ∃ m', w.heap[l.blk]? = some (.mapIter m' a seen.reverse.toArray st) ∧ (match m with | none => m' = none | some i => ∃ k, E.loc i = some k ∧ m' = some k.blk)
  | .loop L => ∃ fn tmps k, E.loc L.dfr = some k ∧ TR E L.sz L.tm tmps ∧
      w.heap[l.blk]? = some (.loop { state := L.st, pending := L.pending, fn := fn, tmps := tmps, params := L.params.toArray, assign := L.assign, body := L.body, defers := k.blk })
  | .dfr shut => w.heap[l.blk]? = some (.deferred (if shut then none else some []))
  | .dead => True
def live : AObj → Prop
  | .dead => False
  | _ => True
def wr : AObj → Prop
  | .dead | .ro _ => False
  | _ => True
theorem live_of_wr {o : AObj} (h : wr o) : live o := by cases o <;> simp_all [wr, live]
theorem OR.mono {E E' : Env} (h : Le E E') {w : World} {l : Loc} {o : AObj} (x : OR E w l o) : OR E' w l o := by
  cases o with
  | cells e rs op => obtain ⟨a, b, c, fr, h1, h2, h3, h4⟩ := x; exact ⟨a, b, c, fr, h1, h2, h3.mono h, h4⟩
  | ro rs => obtain ⟨a, b, c, e, fr, h1, h2, h3⟩ := x; exact ⟨a, b, c, e, fr, h1, h2, h3.mono h⟩
  | map es c => obtain ⟨ms, h1, h2⟩ := x; exact ⟨ms, h1, h2.mono h⟩
  | siter s p => exact x
  | miter m a seen st =>
    obtain ⟨h0, m', h1, h2⟩ := x
    refine ⟨h0, m', h1, ?_⟩
    cases m with
    | none => exact h2
    | some i => obtain ⟨k, hk, e⟩ := h2; exact ⟨k, h.loc _ _ hk, e⟩
  | loop L => obtain ⟨fn, tmps, k, hk, h1, h2⟩ := x; exact ⟨fn, tmps, k, h.loc _ _ hk, h1.mono h, h2⟩
  | dfr shut => exact x
  | dead => trivial
/-- It hangs on its own block alone. -/
theorem OR.heap {E : Env} {w w' : World} {l : Loc} {o : AObj} (x : OR E w l o) (h : w'.heap[l.blk]? = w.heap[l.blk]?) : OR E w' l o := by
  cases o <;> simp only [OR] at x ⊢ <;> (try rw [h]) <;> exact x

structure Sim (E : Env) (S : AW) (w : World) : Prop where
  obj : ∀ i o, S.heap.get i = some o → ∃ l, E.loc i = some l ∧ OR E w l o
  inj : ∀ i j o o' l l', S.heap.get i = some o → S.heap.get j = some o' → live o → live o' → E.loc i = some l → E.loc j = some l' → l.blk = l'.blk → i = j
  new : ∀ i, S.next ≤ i → E.loc i = none
  glob : ∀ g, g < 1000 → E.loc g = some ⟨g, 0, 0⟩

structure Grow (n : Nat) (E : Env) (S : AW) (w : World) (E' : Env) (S' : AW) (w' : World) : Prop where
  le : Le E E'
  os : w'.os = w.os
  tape : w'.tape = w.tape
  output : w'.output = w.output
  size : w.heap.size ≤ w'.heap.size
  keep : ∀ b, b < w.heap.size → (∀ i o l, S.heap.get i = some o → wr o → E.loc i = some l → l.blk ≠ b) → w'.heap[b]? = w.heap[b]?
  own : ∀ i o l, S'.heap.get i = some o → live o → E'.loc i = some l → w.heap.size ≤ l.blk ∨ ∃ j o' l', S.heap.get j = some o' ∧ live o' ∧ E.loc j = some l' ∧ l'.blk = l.blk ∧ (wr o → wr o')
  next : S.next ≤ S'.next
  fresh : ∀ i, i < n → E.loc i = none → E'.loc i = none
theorem Grow.refl (n : Nat) (E : Env) (S : AW) (w : World) : Grow n E S w E S w :=
  ⟨Le.refl E, rfl, rfl, rfl, Nat.le_refl _, fun _ _ _ => rfl, fun i o l hi hl he => .inr ⟨i, o, l, hi, hl, he, rfl, id⟩, Nat.le_refl _, fun _ _ h => h⟩
theorem Grow.less {m n : Nat} {E E1 : Env} {S S1 : AW} {w w1 : World} (a : Grow n E S w E1 S1 w1) (h : m ≤ n) : Grow m E S w E1 S1 w1 := { a with fresh := fun i hi => a.fresh i (Nat.lt_of_lt_of_le hi h) }
theorem Grow.trans {n : Nat} {E E1 E2 : Env} {S S1 S2 : AW} {w w1 w2 : World} (a : Grow n E S w E1 S1 w1) (b : Grow n E1 S1 w1 E2 S2 w2) : Grow n E S w E2 S2 w2 := by
  refine ⟨a.le.trans b.le, b.os.trans a.os, b.tape.trans a.tape, b.output.trans a.output, Nat.le_trans a.size b.size, fun k hk hno => ?_, fun i o l hi hl he => ?_, Nat.le_trans a.next b.next, fun i hi h => b.fresh i hi (a.fresh i hi h)⟩
  · rw [b.keep k (Nat.lt_of_lt_of_le hk a.size) (fun i o l hi hw he => ?_), a.keep k hk hno]
    rcases a.own i o l hi (live_of_wr hw) he with h | ⟨j, o', l', hj, _, he', e, hw'⟩
    · omega
    · rw [← e]; exact hno j o' l' hj (hw' hw) he'
  · rcases b.own i o l hi hl he with h | ⟨j, o', l', hj, hl', he', e, hw'⟩
    · exact .inl (Nat.le_trans a.size h)
    · rcases a.own j o' l' hj hl' he' with h | ⟨j2, o2, l2, hj2, hl2, he2, e2, hw2⟩
      · exact .inl (e ▸ h)
      · exact .inr ⟨j2, o2, l2, hj2, hl2, he2, e2.trans e, fun x => hw2 (hw' x)⟩
/-- Fewer blocks are still like them. -/
theorem Sim.weaken {E : Env} {S S2 : AW} {w : World} (h : Sim E S w) (hs : ∀ i o, S2.heap.get i = some o → S.heap.get i = some o) (hn : S.next ≤ S2.next) : Sim E S2 w :=
  ⟨fun i o hi => h.obj i o (hs i o hi), fun i j o o' l l' hi hj => h.inj i j o o' l l' (hs i o hi) (hs j o' hj), fun i hi => h.new i (Nat.le_trans hn hi), h.glob⟩
theorem T.get_set_same {α : Type} (t : T α) (i : Nat) (v : α) : (t.set i v).get i = some v := T.getp_setp_same v i t i
theorem T.get_set_other {α : Type} (t : T α) {i j : Nat} (v : α) (h : j ≠ i) : (t.set i v).get j = t.get j := T.getp_setp_other v h t i j
theorem T.get_set {α : Type} (t : T α) (i j : Nat) (v : α) : (t.set i v).get j = if j = i then some v else t.get j := by
  by_cases h : j = i
  · subst h; simp [T.get_set_same]
  · simp [T.get_set_other t v h, h]
def Env.put (E : Env) (i : Nat) (l : Loc) : Env := { loc := fun j => if j = i then some l else E.loc j, om := E.om }
theorem Env.put_le {E : Env} {i : Nat} {l : Loc} (h : E.loc i = none) : Le E (E.put i l) := by
  refine ⟨fun j k hj => ?_, rfl⟩
  have : j ≠ i := fun e => by subst e; rw [h] at hj; cases hj
  simp [Env.put, this, hj]
theorem Env.put_same (E : Env) (i : Nat) (l : Loc) : (E.put i l).loc i = some l := by simp [Env.put]
theorem Env.put_other {E : Env} {i j : Nat} (l : Loc) (h : j ≠ i) : (E.put i l).loc j = E.loc j := by simp [Env.put, h]
end Go.Ev
namespace Go.Ev
section
variable {α β : Type}
theorem ob_some {x : Option α} {f : α → Option β} {y : β} : ob x f = some y ↔ ∃ a, x = some a ∧ f a = some y := by
  cases x <;> simp [ob]
theorem tst_some {b : Bool} {x : Option β} {y : β} : tst b x = some y ↔ b = true ∧ x = some y := by
  cases b <;> simp [tst]
@[simp] theorem oel_none (d : β) (f : α → β) : oel d none f = d := rfl
@[simp] theorem oel_some (d : β) (a : α) (f : α → β) : oel d (some a) f = f a := rfl
@[simp] theorem iteB_true (x y : β) : iteB true x y = x := rfl
@[simp] theorem iteB_false (x y : β) : iteB false x y = y := rfl
@[simp] theorem ob_none (f : α → Option β) : ob none f = none := rfl
@[simp] theorem ob_mk (a : α) (f : α → Option β) : ob (some a) f = f a := rfl
@[simp] theorem tst_true (x : Option β) : tst true x = x := rfl
@[simp] theorem tst_false (x : Option β) : tst false x = none := rfl
theorem iteB_eq (b : Bool) (x y : β) : iteB b x y = if b = true then x else y := by cases b <;> rfl
theorem oel_eq (d : β) (x : Option α) (f : α → β) : oel d x f = match x with | none => d | some a => f a := by cases x <;> rfl
theorem andB_eq (a b : Bool) : andB a b = (a && b) := by cases a <;> rfl
theorem orB_eq (a b : Bool) : orB a b = (a || b) := by cases a <;> rfl
theorem notB_eq (a : Bool) : notB a = !a := by cases a <;> rfl
theorem beqB_eq (a b : Bool) : beqB a b = (a == b) := by cases a <;> cases b <;> rfl
theorem isSomeB_eq (x : Option α) : isSomeB x = x.isSome := by cases x <;> rfl
theorem isEmpty_iff {l : List α} : isEmpty l = true ↔ l = [] := by cases l <;> simp [isEmpty]
theorem forceN_eq (m : Nat) (k : Nat → β) : forceN m k = k m := by cases m <;> rfl
theorem one1_some {l : List α} {a : α} : one1 l = some a ↔ l = [a] := by
  unfold one1
  rw [tst_some, llen_eq, lget_eq, beq_iff]
  constructor
  · rintro ⟨h, k⟩
    cases l with
    | nil => simp at h
    | cons x l => cases l with
      | nil => simp at k; rw [k]
      | cons y l => simp at h
  · rintro rfl; simp
end
/- what is in a value -/
theorem dBool_some {v : AV} {b : Bool} : dBool v = some b ↔ v = .bool b := by cases v <;> simp [dBool]
theorem dInt_some {v : AV} {p : IntKind × Int} : dInt v = some p ↔ v = .int p.1 p.2 := by cases v <;> simp [dInt, Prod.ext_iff]
theorem natOf_some {n : Int} {m : Nat} : natOf n = some m ↔ n = .ofNat m := by
  cases n with
  | ofNat a => show some a = some m ↔ _; constructor
               · intro h; cases h; rfl
               · intro h; cases h; rfl
  | negSucc a => show none = some m ↔ _; constructor
                 · intro h; cases h
                 · intro h; cases h
theorem dNat_some {v : AV} {m : Nat} : dNat v = some m ↔ ∃ k, v = .int k (.ofNat m) := by
  cases v <;> simp [dNat]
  exact natOf_some
theorem dStr_some {v : AV} {s : List Nat} : dStr v = some s ↔ v = .str s := by cases v <;> simp [dStr]
theorem dPtr_some {v : AV} {p : Nat × Nat} : dPtr v = some p ↔ v = .ptr p.1 p.2 := by cases v <;> simp [dPtr, Prod.ext_iff]
theorem dAgg_some {v : AV} {cs : RL} : dAgg v = some cs ↔ v = .agg cs := by cases v <;> simp [dAgg]
theorem dTup_some {v : AV} {vs : List AV} : dTup v = some vs ↔ v = .tup vs := by cases v <;> simp [dTup]
theorem dMap_some {v : AV} {i : Nat} : dMap v = some i ↔ v = .map i := by cases v <;> simp [dMap]
theorem dYld_some {v : AV} {i : Nat} : dYld v = some i ↔ v = .yld i := by cases v <;> simp [dYld]
theorem dSl_some {v : AV} {s : Sl} : dSl v = some s ↔ v = .sl s.i s.off s.len s.cap := by cases v <;> simp [dSl]; cases s; simp
theorem dFn_some {v : AV} {q : FnV} : dFn v = some q ↔ v = .fn q.f q.first q.cap := by cases v <;> simp [dFn]; cases q; simp
theorem dIfc_some {v : AV} {q : Ifc} : dIfc v = some q ↔ v = .ifc q.t q.v := by cases v <;> simp [dIfc]; cases q; simp
theorem isNsl_iff {v : AV} : isNsl v = true ↔ v = .nsl := by cases v <;> simp [isNsl]
theorem isNmap_iff {v : AV} : isNmap v = true ↔ v = .nmap := by cases v <;> simp [isNmap]
theorem isNptr_iff {v : AV} : isNptr v = true ↔ v = .nptr := by cases v <;> simp [isNptr]
theorem isNifc_iff {v : AV} : isNifc v = true ↔ v = .nifc := by cases v <;> simp [isNifc]
/- types -/
theorem dSliceT_some {d : TypeDesc} {e : TypeId} : dSliceT d = some e ↔ d = .slice e := by cases d <;> simp [dSliceT]
theorem dArrT_some {d : TypeDesc} {p : Nat × TypeId} : dArrT d = some p ↔ d = .array p.1 p.2 := by cases d <;> simp [dArrT, Prod.ext_iff]
theorem dStructT_some {d : TypeDesc} {fs : List Field} : dStructT d = some fs ↔ d = .struct fs.toArray := by
  cases d <;> simp [dStructT]
  constructor
  · rintro rfl; simp
  · rintro rfl; simp
theorem dMapT_some {d : TypeDesc} {p : TypeId × TypeId} : dMapT d = some p ↔ d = .map p.1 p.2 := by cases d <;> simp [dMapT, Prod.ext_iff]
theorem dPtrT_some {d : TypeDesc} {e : TypeId} : dPtrT d = some e ↔ d = .pointer e := by cases d <;> simp [dPtrT]
theorem dIntT_some {d : TypeDesc} {k : IntKind} : dIntT d = some k ↔ d = .int k := by cases d <;> simp [dIntT]
theorem isStrT_iff {d : TypeDesc} : isStrT d = true ↔ d = .string := by cases d <;> simp [isStrT]
theorem isBoolT_iff {d : TypeDesc} : isBoolT d = true ↔ d = .bool := by cases d <;> simp [isBoolT]
theorem isUnsafeT_iff {d : TypeDesc} : isUnsafeT d = true ↔ d = .unsafePointer := by cases d <;> simp [isUnsafeT]
theorem isIfcT_iff {d : TypeDesc} : isIfcT d = true ↔ ∃ m, d = .interface m := by cases d <;> simp [isIfcT]
theorem isAggT_iff {d : TypeDesc} : isAggT d = true ↔ (∃ fs, d = .struct fs) ∨ ∃ n e, d = .array n e := by cases d <;> simp [isAggT]
theorem ikeq_iff {j k : IntKind} : ikeq j k = true ↔ j = k := by cases j <;> cases k <;> simp [ikeq, kcode]

/- one cell, or many -/
theorem cellVal_of {E : Env} {a : AV} {v : Value} (h : VR E a v) (ho : oneCell a = true) : cellVal v := by
  cases a with
  | agg cs => simp [oneCell] at ho
  | tup vs => simp [oneCell] at ho
  | opq k => simp only [VR] at h; exact h.2
  | sl i o n c => cases c <;> (simp only [VR] at h; obtain ⟨l, _, _, rfl⟩ := h; trivial)
  | str s => simp only [VR] at h; rw [h.1]; trivial
  | fn f x y => simp only [VR] at h; obtain ⟨_, _, rfl, _⟩ := h; trivial
  | ptr i o => simp only [VR] at h; obtain ⟨l, _, rfl⟩ := h; trivial
  | map i => simp only [VR] at h; obtain ⟨l, _, rfl⟩ := h; trivial
  | chan i => simp only [VR] at h; obtain ⟨l, _, rfl⟩ := h; trivial
  | yld i => simp only [VR] at h; obtain ⟨l, _, rfl⟩ := h; trivial
  | ifc t x => simp only [VR] at h; obtain ⟨l, rfl, _⟩ := h; trivial
  | _ => simp only [VR] at h; subst h; trivial
theorem cells_of_cellVal {v : Value} (h : cellVal v) : v.cells = #[v] := by cases v <;> simp_all [cellVal, Value.cells]
theorem cellsOfV_sound {E : Env} {a : AV} {v : Value} {cs : RL} (h : VR E a v) (hc : cellsOfV a = some cs) : ∃ vs : List Value, v.cells = vs.toArray ∧ CR E (rflat cs) vs := by
  unfold cellsOfV at hc
  cases hd : dAgg a with
  | some r =>
    simp only [hd, oel_some] at hc
    cases hc
    rw [dAgg_some] at hd
    subst hd
    simp only [VR] at h
    obtain ⟨xs, rfl, hx⟩ := h
    exact ⟨xs, rfl, VRR_iff.1 hx⟩
  | none =>
    simp only [hd, oel_none, tst_some] at hc
    obtain ⟨ho, hc⟩ := hc
    cases hc
    have hv := cellVal_of h ho
    refine ⟨[v], cells_of_cellVal hv, ?_⟩
    exact VRR_iff.1 ⟨[v], [], by simp, rfl, fun x hx => by simp at hx; subst hx; exact ⟨h, hv⟩, by simp [VRR]⟩

/- constants -/
theorem bytesV_of (s : ByteArray) : bytesV (lmap UInt8.toNat s.data.toList) = .string s := by
  unfold bytesV
  rw [lmap_eq, List.map_map]
  have : (UInt8.ofNat ∘ UInt8.toNat) = id := by funext x; simp
  rw [this]; simp
theorem ofVal0_sound {v : Value} {a : AV} (h : ofVal0 v = some a) : (∀ E, VR E a v) ∧ cellVal v := by
  cases v with
  | bool b => simp [ofVal0] at h; subst h; simp [VR, cellVal]
  | int k n => simp [ofVal0] at h; subst h; simp [VR, cellVal]
  | float k n => simp [ofVal0] at h
  | complex k a b => simp [ofVal0] at h
  | string s =>
    simp [ofVal0] at h; subst h
    refine ⟨fun E => ?_, trivial⟩
    simp only [VR]
    refine ⟨(bytesV_of s).symm, fun x hx => ?_⟩
    rw [lmap_eq] at hx
    simp at hx
    obtain ⟨u, _, rfl⟩ := hx
    exact UInt8.toNat_lt u
  | pointer p => cases p <;> simp [ofVal0] at h; subst h; simp [VR, cellVal]
  | slice p n c =>
    cases p <;> simp [ofVal0, nilSl, tst_some] at h
    obtain ⟨h1, h2⟩ := h
    subst h2
    rw [andB_eq] at h1
    simp only [Bool.and_eq_true] at h1
    have e1 := eq_of_beq h1.1
    have e2 := eq_of_beq h1.2
    subst e1; subst e2
    simp [VR, cellVal]
  | map p => cases p <;> simp [ofVal0] at h; subst h; simp [VR, cellVal]
  | chan p => cases p <;> simp [ofVal0] at h; subst h; simp [VR, cellVal]
  | func f x y => simp [ofVal0] at h
  | nilFunc => simp [ofVal0] at h; subst h; simp [VR, cellVal]
  | iface t x => simp [ofVal0] at h
  | nilIface => simp [ofVal0] at h; subst h; simp [VR, cellVal]
  | agg x => simp [ofVal0] at h
  | tuple x => simp [ofVal0] at h
theorem nilKind_cases {x : AV} (h : nilKind x ≠ 0) : x = .nptr ∨ x = .nsl ∨ x = .nmap ∨ x = .nchan ∨ x = .nfn ∨ x = .nifc := by
  cases x <;> simp_all [nilKind]
theorem ieq_iff {x y : Int} : ieq x y = true ↔ x = y := by
  cases x with
  | ofNat a => cases y with
    | ofNat b => show Nat.beq b a = true ↔ _; rw [beq_iff]; constructor
                 · rintro rfl; rfl
                 · intro h; cases h; rfl
    | negSucc b => show false = true ↔ _; simp
  | negSucc a => cases y with
    | ofNat b => show false = true ↔ _; simp
    | negSucc b => show Nat.beq b a = true ↔ _; rw [beq_iff]; constructor
                   · rintro rfl; rfl
                   · intro h; cases h; rfl
theorem sameScalar_eq {x y : AV} (h : sameScalar x y = true) : x = y := by
  unfold sameScalar at h
  cases hx : dInt x with
  | some p =>
    simp only [hx, oel_some] at h
    cases hy : dInt y with
    | none => simp [hy] at h
    | some q =>
      simp only [hy, oel_some, andB_eq, Bool.and_eq_true] at h
      rw [dInt_some] at hx hy
      rw [hx, hy, ikeq_iff.1 h.1, ieq_iff.1 h.2]
  | none =>
    simp only [hx, oel_none] at h
    cases hb : dBool x with
    | some a =>
      simp only [hb, oel_some] at h
      cases hy : dBool y with
      | none => simp [hy] at h
      | some b =>
        simp only [hy, oel_some, beqB_eq, beq_iff_eq] at h
        rw [dBool_some] at hb hy
        rw [hb, hy, h]
    | none =>
      simp only [hb, oel_none, andB_eq, notB_eq, Bool.and_eq_true, Bool.not_eq_true'] at h
      have h0 := ne_of_beq h.1
      have h1 := eq_of_beq h.2
      have hy0 : nilKind y ≠ 0 := h1 ▸ h0
      rcases nilKind_cases h0 with rfl | rfl | rfl | rfl | rfl | rfl <;> rcases nilKind_cases hy0 with rfl | rfl | rfl | rfl | rfl | rfl <;> simp [nilKind] at h1 ⊢
theorem rflat_rcons (v : AV) (l : RL) : rflat (rcons v l) = v :: rflat l := by
  cases l with
  | nil => simp [rcons, rflat_cons, rflat_nil]
  | cons x r =>
    obtain ⟨n, u⟩ := x
    show rflat (iteB (sameScalar v u) ((Nat.succ n, u) :: r) ((1, v) :: (n, u) :: r)) = _
    cases h : sameScalar v u with
    | true => rw [iteB_true, rflat_cons, rflat_cons, sameScalar_eq h]; simp [List.replicate_succ]
    | false => rw [iteB_false, rflat_cons]; simp
theorem ofCells_sound : ∀ {l : List Value} {r : RL}, ofCells l = some r → ∀ E, CR E (rflat r) l := by
  intro l
  induction l with
  | nil => intro r h E; simp [ofCells] at h; subst h; exact CR.nil E
  | cons v l ih =>
    intro r h E
    have h : ob (ofVal0 v) (fun a => ob (ofCells l) fun r => some (rcons a r)) = some r := h
    rw [ob_some] at h
    obtain ⟨a, ha, h⟩ := h
    rw [ob_some] at h
    obtain ⟨r', hr, h⟩ := h
    cases h
    rw [rflat_rcons]
    have := (CR.repl (E := E) (n := 1) (a := a) (p := [v])).2 ⟨rfl, fun x hx => by simp at hx; subst hx; exact ⟨(ofVal0_sound ha).1 E, (ofVal0_sound ha).2⟩⟩
    exact this.append (ih hr E)
theorem lmapO_some {α β : Type} {f : α → Option β} : ∀ {l : List α} {ys : List β}, lmapO f l = some ys → l.length = ys.length ∧ ∀ (i : Nat) (x : α) (y : β), l[i]? = some x → ys[i]? = some y → f x = some y := by
  intro l
  induction l with
  | nil => intro ys h; simp [lmapO_nil] at h; subst h; exact ⟨rfl, fun i x y h => by simp at h⟩
  | cons x l ih =>
    intro ys h
    rw [lmapO_cons] at h
    cases hx : f x with
    | none => simp [hx] at h
    | some y =>
      simp only [hx] at h
      cases hl : lmapO f l with
      | none => simp [hl] at h
      | some zs =>
        simp only [hl] at h
        cases h
        obtain ⟨h1, h2⟩ := ih hl
        refine ⟨by simp [h1], fun i a b ha hb => ?_⟩
        cases i with
        | zero => simp at ha hb; rw [← ha, ← hb]; exact hx
        | succ i => exact h2 i a b (by simpa using ha) (by simpa using hb)
theorem ofVal_sound {v : Value} {a : AV} (h : ofVal v = some a) : ∀ E, VR E a v := by
  intro E
  cases v with
  | agg cs =>
    have h : ob (ofCells cs.toList) (fun r => some (AV.agg r)) = some a := h
    rw [ob_some] at h
    obtain ⟨r, hr, h⟩ := h
    cases h
    simp only [VR]
    exact ⟨cs.toList, by simp, VRR_iff.2 (ofCells_sound hr E)⟩
  | tuple vs =>
    have h : ob (lmapO ofVal0 vs.toList) (fun r => some (AV.tup r)) = some a := h
    rw [ob_some] at h
    obtain ⟨r, hr, h⟩ := h
    cases h
    simp only [VR]
    refine ⟨vs.toList, by simp, VRL_iff.2 ?_⟩
    obtain ⟨h1, h2⟩ := lmapO_some hr
    exact ⟨h1.symm, fun i x y hx hy => (ofVal0_sound (h2 i y x hy hx)).1 E⟩
  | bool b => exact (ofVal0_sound (v := .bool b) h).1 E
  | int k n => exact (ofVal0_sound (v := .int k n) h).1 E
  | string s => exact (ofVal0_sound (v := .string s) h).1 E
  | pointer p => exact (ofVal0_sound (v := .pointer p) h).1 E
  | slice p n c => exact (ofVal0_sound (v := .slice p n c) h).1 E
  | map p => exact (ofVal0_sound (v := .map p) h).1 E
  | chan p => exact (ofVal0_sound (v := .chan p) h).1 E
  | nilFunc => exact (ofVal0_sound (v := .nilFunc) h).1 E
  | nilIface => exact (ofVal0_sound (v := .nilIface) h).1 E
  | float k n => simp [ofVal] at h
  | complex k a b => simp [ofVal] at h
  | func f x y => simp [ofVal] at h
  | iface t x => simp [ofVal] at h

/- operands -/
def Glob (E : Env) : Prop := ∀ g, g < 1000 → E.loc g = some ⟨g, 0, 0⟩
theorem aev_sound {E : Env} {sz : Nat} {tm : T AV} {act : Act} (hg : Glob E) (ht : TR E sz tm act.tmps) {x : Operand} {a : AV} (h : aev tm x = some a) : VR E a (act.eval x) := by
  cases x with
  | tmp t => exact ht.2 t a h
  | const v => exact ofVal_sound h E
  | global g =>
    have h : tst (Nat.blt g 1000) (some (AV.ptr g 0)) = some a := h
    rw [tst_some] at h
    obtain ⟨h1, h⟩ := h
    cases h
    simp only [VR]
    exact ⟨_, hg g (blt_iff.1 h1), rfl⟩
  | func f =>
    have h : some (AV.fn f [] []) = some a := h
    cases h
    simp only [VR]
    exact ⟨[], [], rfl, by simp [VRL], by simp [VRL]⟩
end Go.Ev
namespace Go.Ev
structure TTok (P : Program) (tt : T Ty) : Prop where
  ok : ∀ t d, tt.get t = some d → ∃ i, P.info? t = some i ∧ P.underlying t = some d.und ∧ i.size = d.size ∧ i.bytes = d.bytes ∧ d.agg = isAggT d.und ∧
    (∀ z, d.zero = some z → ∃ v, i.zero = some v ∧ ∀ E, VR E z v)
section
variable {P : Program} {tt : T Ty}
theorem TTok.und (h : TTok P tt) {t : TypeId} {d : Ty} (x : tt.get t = some d) : P.underlying t = some d.und := by
  obtain ⟨i, _, h2, _⟩ := h.ok t d x; exact h2
theorem TTok.runU (h : TTok P tt) {t : TypeId} {d : Ty} (x : tt.get t = some d) (w : World) : (underlying t).run P w = .ok d.und w := run_underlying (h.und x) w
theorem TTok.runS (h : TTok P tt) {t : TypeId} {d : Ty} (x : tt.get t = some d) (w : World) : (sizeOf t).run P w = .ok d.size w := by
  obtain ⟨i, h1, _, h3, _⟩ := h.ok t d x
  simp [sizeOf, typeInfo, h1, h3]
theorem TTok.runB (h : TTok P tt) {t : TypeId} {d : Ty} (x : tt.get t = some d) (w : World) : ∃ i : TypeInfo, (typeInfo t).run P w = .ok i w ∧ i.bytes = d.bytes ∧ i.size = d.size := by
  obtain ⟨i, h1, _, h3, h4, _⟩ := h.ok t d x
  exact ⟨i, by simp [typeInfo, h1], h4, h3⟩
theorem TTok.runA (h : TTok P tt) {t : TypeId} {d : Ty} (x : tt.get t = some d) (w : World) : (isAgg t).run P w = .ok d.agg w := by
  obtain ⟨i, h1, h2, _, _, h5, _⟩ := h.ok t d x
  rw [h5]
  unfold isAgg
  simp only [Sem.run_bind, h.runU x, Result.andThen_ok]
  cases d.und <;> rfl
theorem TTok.runZ (h : TTok P tt) {t : TypeId} {d : Ty} (x : tt.get t = some d) {z : AV} (hz : d.zero = some z) : ∃ v, (∀ w, (zeroValue t).run P w = .ok v w) ∧ ∀ E, VR E z v := by
  obtain ⟨i, h1, _, _, _, _, h6⟩ := h.ok t d x
  obtain ⟨v, hv, hE⟩ := h6 z hz
  exact ⟨v, fun w => by simp [zeroValue, typeInfo, h1, hv], hE⟩
theorem tsize_some {t : TypeId} {s : Nat} : tsize tt t = some s ↔ ∃ d, tt.get t = some d ∧ d.size = s := by
  unfold tsize; rw [ob_some]; simp
end
/- lists of cells -/
theorem rext_some {rs r : RL} {off n : Nat} (h : rext rs off n = some r) : rflat r = ((rflat rs).drop off).take n ∧ (rflat r).length = n := by
  unfold rext at h
  rw [tst_some] at h
  obtain ⟨h1, h⟩ := h
  cases h
  have h1 := eq_of_beq h1
  rw [rlen_eq] at h1
  exact ⟨by rw [rtake_eq, rdrop_eq], h1⟩
theorem rput_some {rs r new : RL} {off : Nat} (h : rput rs off new = some r) :
    rflat r = (rflat rs).take off ++ rflat new ++ (rflat rs).drop (off + (rflat new).length) ∧ off + (rflat new).length ≤ (rflat rs).length := by
  unfold rput rput2 at h
  rw [tst_some, tst_some] at h
  obtain ⟨h1, h2, h⟩ := h
  cases h
  have h1 := eq_of_beq h1
  have h2 := ble_iff.1 h2
  rw [rlen_eq, rtake_eq] at h1
  rw [rlen_eq, rlen_eq, rdrop_eq] at h2
  simp only [List.length_take, List.length_drop] at h1 h2
  refine ⟨?_, by omega⟩
  rw [rflat_app, rflat_app, rtake_eq, rdrop_eq, rdrop_eq, List.drop_drop, rlen_eq, List.append_assoc]
theorem partV_sound {E : Env} {d : Ty} {cs : RL} {off : Nat} {v : AV} {vs : List Value} (h : partV d cs off = some v) (hc : CR E (rflat cs) vs) :
    (d.agg = true → ((vs.drop off).take d.size).length = d.size ∧ VR E v (.agg ((vs.drop off).take d.size).toArray)) ∧ (d.agg = false → ∃ y, vs[off]? = some y ∧ VR E v y ∧ cellVal y) := by
  unfold partV at h
  cases ha : d.agg with
  | true =>
    refine ⟨fun _ => ?_, fun h => by simp at h⟩
    rw [ha, iteB_true, ob_some] at h
    obtain ⟨r, hr, h⟩ := h
    cases h
    obtain ⟨h1, h2⟩ := rext_some hr
    have hk := (hc.drop off).take d.size
    rw [← h1] at hk
    refine ⟨by rw [← hk.1]; exact h2, ?_⟩
    simp only [VR]
    exact ⟨_, rfl, VRR_iff.2 hk⟩
  | false =>
    refine ⟨fun h => by simp at h, fun _ => ?_⟩
    rw [ha, iteB_false, rget_eq] at h
    exact hc.get h
/- blocks -/
theorem addr_add (b o n : Nat) : (⟨b, o, none⟩ : Addr).add n = ⟨b, o + n, none⟩ := by unfold Addr.add; split <;> simp_all
theorem cell_row {w : World} {b : Nat} {l : List Value} {e : TypeId} {fr : Nat × Nat} (h : w.heap[b]? = some (.cells l.toArray e fr)) (o : Nat) : w.cell? ⟨b, o, none⟩ = l[o]? := by
  simp [World.cell?, h]
theorem rcells_sound {E : Env} {S : AW} {w : World} (hS : Sim E S w) {i : Nat} {rs : RL} (h : rcells S i = some rs) :
    ∃ l pre mid post e fr, E.loc i = some l ∧ w.heap[l.blk]? = some (.cells (pre ++ mid ++ post).toArray e fr) ∧ pre.length = l.off ∧ CR E (rflat rs) mid := by
  unfold rcells at h
  rw [ob_some] at h
  obtain ⟨o, ho, h⟩ := h
  obtain ⟨l, hl, hO⟩ := hS.obj i o ho
  cases o with
  | cells e rs' op =>
    simp [rowOf] at h; subst h
    obtain ⟨a, b, c, fr, h1, h2, h3, _⟩ := hO
    exact ⟨l, a, b, c, e, fr, hl, h1, h2, h3⟩
  | ro rs' =>
    simp [rowOf] at h; subst h
    obtain ⟨a, b, c, e, fr, h1, h2, h3⟩ := hO
    exact ⟨l, a, b, c, e, fr, hl, h1, h2, h3⟩
  | _ => simp [rowOf] at h
theorem mid_get {pre mid post : List Value} {o : Nat} {v : Value} (h : mid[o]? = some v) : (pre ++ mid ++ post)[pre.length + o]? = some v := by
  have hi := (List.getElem?_eq_some_iff.1 h).1
  rw [List.getElem?_append_left (by simp; omega), List.getElem?_append_right (by omega)]
  simpa using h
theorem run_loadMid {P : Program} {w : World} {b : Nat} {pre mid post : List Value} {e : TypeId} {fr : Nat × Nat} (h : w.heap[b]? = some (.cells (pre ++ mid ++ post).toArray e fr)) (o n : Nat)
    (hn : ((mid.drop o).take n).length = n) : (loadCells ⟨b, pre.length + o, none⟩ n).run P w = .ok ((mid.drop o).take n).toArray w := by
  have := run_loadCells_list (P := P) w ⟨b, pre.length + o, none⟩ ((mid.drop o).take n) (fun j v hv => by
    rw [addr_add, cell_row h, Nat.add_assoc]
    refine mid_get ?_
    rw [List.getElem?_take, List.getElem?_drop] at hv
    split at hv
    · exact hv
    · cases hv)
  rwa [hn] at this
theorem loadV_sound {P : Program} {tt : T Ty} (hT : TTok P tt) {E : Env} {S : AW} {w : World} (hS : Sim E S w) {t : TypeId} {a v : AV} {x : Value} (h : loadV tt S t a = some v) (hx : VR E a x) :
    ∃ y ad, x = .pointer (some ad) ∧ (loadVar t ad).run P w = .ok y w ∧ VR E v y := by
  unfold loadV at h
  simp only [ob_some] at h
  obtain ⟨p, hp, d, hd, rs, hrs, h⟩ := h
  rw [dPtr_some] at hp
  subst hp
  simp only [VR] at hx
  obtain ⟨l, hl, rfl⟩ := hx
  obtain ⟨l', pre, mid, post, e, fr, hl', hb, hpre, hc⟩ := rcells_sound hS hrs
  rw [hl] at hl'
  cases hl'
  obtain ⟨hA, hN⟩ := partV_sound h hc
  cases ha : d.agg with
  | true =>
    obtain ⟨h1, h2⟩ := hA ha
    refine ⟨_, _, rfl, ?_, h2⟩
    unfold loadVar
    simp only [Sem.run_bind, hT.runA hd, Result.andThen_ok, ha, if_true, hT.runS hd, ← hpre, run_loadMid hb _ _ h1, Sem.run_pure]
  | false =>
    obtain ⟨y, h1, h2, _⟩ := hN ha
    refine ⟨y, _, rfl, ?_, h2⟩
    unfold loadVar
    simp only [Sem.run_bind, hT.runA hd, Result.andThen_ok, ha, Bool.false_eq_true, if_false, run_load, ← hpre, cell_row hb, mid_get h1]

/-- A block replaced. -/
def _root_.Go.World.setBlk (w : World) (b : Nat) (o : Obj) : World := { w with heap := w.heap.setIfInBounds b o }
theorem setBlk_same {w : World} {b : Nat} {o : Obj} (h : b < w.heap.size) : (w.setBlk b o).heap[b]? = some o := by simp [World.setBlk, h]
theorem setBlk_other {w : World} {b k : Nat} {o : Obj} (h : k ≠ b) : (w.setBlk b o).heap[k]? = w.heap[k]? := by
  simp only [World.setBlk]; rw [Array.getElem?_setIfInBounds_ne (Ne.symm h)]
theorem setBlk_size (w : World) (b : Nat) (o : Obj) : (w.setBlk b o).heap.size = w.heap.size := by simp [World.setBlk]
theorem setBlk_setBlk (w : World) (b : Nat) (o o' : Obj) : (w.setBlk b o).setBlk b o' = w.setBlk b o' := by
  simp [World.setBlk, Array.setIfInBounds_setIfInBounds]
theorem setBlk_self {w : World} {b : Nat} {o : Obj} (h : w.heap[b]? = some o) : w.setBlk b o = w := by
  have hb := (Array.getElem?_eq_some_iff.1 h).1
  have hv := (Array.getElem?_eq_some_iff.1 h).2
  have : w.heap.setIfInBounds b o = w.heap := by
    apply Array.ext_getElem?
    intro k
    rw [Array.getElem?_setIfInBounds]
    split
    · rename_i hk; subst hk; simp [hb, hv]
    · rfl
  simp [World.setBlk, this]
theorem setCell_eq {w : World} {b o : Nat} {c : Array Value} {e : TypeId} {fr : Nat × Nat} (h : w.heap[b]? = some (.cells c e fr)) (v : Value) :
    w.setCell ⟨b, o, none⟩ v = w.setBlk b (.cells (c.setIfInBounds o v) e fr) := by
  have hb := (Array.getElem?_eq_some_iff.1 h).1
  have hv := (Array.getElem?_eq_some_iff.1 h).2
  simp only [World.setCell, World.setBlk]
  congr 1
  apply Array.ext_getElem?
  intro k
  rw [Array.getElem?_setIfInBounds, Array.getElem?_modify]
  by_cases hk : b = k
  · subst hk; simp [hb, hv]
  · simp [hk]
theorem cellVal_oneCell {v : Value} (h : cellVal v) : v.oneCell' = true := by cases v <;> simp_all [cellVal, Value.oneCell']
theorem run_storeRow {P : Program} {b : Nat} {e : TypeId} {fr : Nat × Nat} : ∀ (vs : List Value) (o i : Nat) (l : List Value) (w : World), w.heap[b]? = some (.cells l.toArray e fr) → (fr.2 ≤ fr.1 ∨ l.length ≤ fr.1) → o + i + vs.length ≤ l.length →
    (∀ v ∈ vs, cellVal v) → (storeCells ⟨b, o, none⟩ vs i).run P w = .ok () (w.setBlk b (.cells (l.take (o + i) ++ vs ++ l.drop (o + i + vs.length)).toArray e fr)) := by
  intro vs
  induction vs with
  | nil =>
    intro o i l w h _ _ _
    have e : l.take (o + i) ++ ([] : List Value) ++ l.drop (o + i + ([] : List Value).length) = l := by simp
    rw [e, setBlk_self h]
    rfl
  | cons v vs ih =>
    intro o i l w h hfr hlen hcv
    simp only [List.length_cons] at hlen
    have hi : o + i < l.length := by omega
    unfold storeCells
    simp only [Sem.run_bind, addr_add]
    rw [run_store P w _ v .plain (cellVal_oneCell (hcv v (by simp))), cell_row h, List.getElem?_eq_getElem hi]
    have hz : w.frozen? ⟨b, o + i, none⟩ = false := by
      simp only [World.frozen?, h]
      rcases hfr with hf | hf
      · simp; omega
      · simp; omega
    simp only [hz, Bool.false_eq_true, if_false, Result.andThen_ok]
    rw [setCell_eq h]
    have hb := (Array.getElem?_eq_some_iff.1 h).1
    have hset : l.toArray.setIfInBounds (o + i) v = (l.set (o + i) v).toArray := by simp
    rw [hset]
    have h1 := setBlk_same (w := w) (o := .cells (l.set (o + i) v).toArray e fr) hb
    rw [ih o (i + 1) (l.set (o + i) v) _ h1 (by simpa using hfr) (by simp; omega) (fun x hx => hcv x (by simp [hx])), setBlk_setBlk]
    have e : (l.set (o + i) v).take (o + (i + 1)) ++ vs ++ (l.set (o + i) v).drop (o + (i + 1) + vs.length) = l.take (o + i) ++ (v :: vs) ++ l.drop (o + i + (v :: vs).length) := by
      have e1 : (l.set (o + i) v).take (o + (i + 1)) = l.take (o + i) ++ [v] := by
        rw [← Nat.add_assoc, List.take_succ_eq_append_getElem (by simpa using hi), List.take_set_of_le (Nat.le_refl _)]
        simp
      rw [e1, List.drop_set_of_lt (by omega)]
      have : o + (i + 1) + vs.length = o + i + (v :: vs).length := by simp; omega
      rw [this]
      simp
    rw [e]
end Go.Ev
namespace Go.Ev
theorem wrapN_eq (k : IntKind) (m : Nat) : wrapN k m = k.wrap (.ofNat m) := by
  unfold wrapN
  cases h : Nat.ble m (pmax k) with
  | false => rfl
  | true =>
    rw [iteB_true]
    have h := ble_iff.1 h
    cases k <;> simp only [pmax] at h <;> simp [IntKind.wrap, IntKind.bits, IntKind.signed] <;> omega
theorem wrapS_eq (k : IntKind) (m : Nat) : wrapS k m = k.wrap (.negSucc m) := by
  unfold wrapS
  cases hs : isSigned k with
  | false => rfl
  | true =>
    rw [iteB_true]
    cases h : Nat.ble m (pmax k) with
    | false => rfl
    | true =>
      rw [iteB_true]
      have h := ble_iff.1 h
      have hn : Int.negSucc m = -(m + 1 : Int) := Int.negSucc_eq m
      cases k <;> simp [isSigned] at hs <;> simp only [pmax] at h
      · exact (IntWalk.i8_in _ (by omega)).symm
      · exact (IntWalk.i16_in _ (by omega)).symm
      · exact (IntWalk.i32_in _ (by omega)).symm
      · exact (IntWalk.i64_in _ (by omega)).symm
theorem wrapI_eq (k : IntKind) (n : Int) : wrapI k n = k.wrap n := by
  cases n with
  | ofNat m => exact wrapN_eq k m
  | negSucc m => exact wrapS_eq k m
theorem iadd_eq (x y : Int) : iadd x y = x + y := by
  cases x with
  | ofNat a => cases y with
    | ofNat b => rfl
    | negSucc b => rfl
  | negSucc a => rfl
theorem isub_eq (x y : Int) : isub x y = x - y := by
  cases x with
  | ofNat a => cases y with
    | ofNat b =>
      show subNN a b = _
      unfold subNN
      cases h : Nat.ble b a with
      | true => have h := ble_iff.1 h; rw [iteB_true]; show Int.ofNat (a - b) = (a : Int) - b; simp; omega
      | false => have h := ble_false.1 h; rw [iteB_false]; show Int.negSucc (b - (a + 1)) = (a : Int) - b; omega
    | negSucc b => rfl
  | negSucc a => rfl
theorem imul_eq (x y : Int) : imul x y = x * y := by
  cases x with
  | ofNat a => cases y with
    | ofNat b => rfl
    | negSucc b => rfl
  | negSucc a => rfl
theorem ilt_eq (x y : Int) : ilt x y = decide (x < y) := by
  cases x with
  | ofNat a => cases y with
    | ofNat b => show Nat.blt a b = _; rw [Bool.eq_iff_iff, blt_iff]; simp
    | negSucc b => show false = _; symm; simp; omega
  | negSucc a => cases y with
    | ofNat b => show true = _; symm; simp; omega
    | negSucc b => show Nat.blt b a = _; rw [Bool.eq_iff_iff, blt_iff]; simp; omega
theorem ieq_eq (x y : Int) : ieq x y = (x == y) := by rw [Bool.eq_iff_iff, ieq_iff]; simp
theorem nbits_eq (k : IntKind) : nbits k = k.bits := by cases k <;> rfl
theorem umax_lt {k : IntKind} {a : Nat} (h : Nat.ble a (umax k) = true) : a < 2 ^ k.bits := by
  have h := ble_iff.1 h
  cases k <;> simp only [umax] at h <;> simp [IntKind.bits] <;> omega
theorem shN_eq (k : IntKind) (s : Nat) : shN k s = min s k.bits := by
  unfold shN
  rw [nbits_eq]
  cases h : Nat.ble s k.bits with
  | true => have h := ble_iff.1 h; rw [iteB_true, Nat.min_eq_left h]
  | false => have h := ble_false.1 h; rw [iteB_false, Nat.min_eq_right (by omega)]

/-- A result that is the same whatever the memory. -/
def Pure (P : Program) (s : Sem Value) (a : AV) : Prop := ∃ v, (∀ w, s.run P w = .ok v w) ∧ ∀ E, VR E a v
theorem Pure.int {P : Program} {k : IntKind} {m n : Int} (h : m = n) : Pure P (Pure.pure (Value.int k m)) (.int k n) := ⟨_, fun _ => rfl, fun E => by simp [VR, h]⟩
theorem Pure.bool {P : Program} {m n : Bool} (h : m = n) : Pure P (Pure.pure (Value.bool m)) (.bool n) := ⟨_, fun _ => rfl, fun E => by simp [VR, h]⟩
theorem bitsN_pure {P : Program} {g : Nat → Nat → Nat} {h : IntKind → Int → Int → Int} {k : IntKind} {x y : Int} {v : AV} {r : Int} (hv : bitsN g h k x y = some v)
    (h1 : h k x y = r) (h2 : ∀ a b : Nat, x = .ofNat a → y = .ofNat b → a < 2 ^ k.bits → b < 2 ^ k.bits → k.wrap (.ofNat (g a b)) = r) : Pure P (Pure.pure (Value.int k r)) v := by
  unfold bitsN at hv
  cases hx : natOf x with
  | none => simp only [hx, oel_none] at hv; cases hv; exact Pure.int h1.symm
  | some a =>
    simp only [hx, oel_some] at hv
    cases hy : natOf y with
    | none => simp only [hy, oel_none] at hv; cases hv; exact Pure.int h1.symm
    | some b =>
      simp only [hy, oel_some] at hv
      cases hc : andB (Nat.ble a (umax k)) (Nat.ble b (umax k)) with
      | false => rw [hc, iteB_false] at hv; cases hv; exact Pure.int h1.symm
      | true =>
        rw [hc, iteB_true] at hv
        cases hv
        rw [andB_eq, Bool.and_eq_true] at hc
        rw [natOf_some] at hx hy
        refine Pure.int ?_
        rw [wrapN_eq]
        exact (h2 a b hx hy (umax_lt hc.1) (umax_lt hc.2)).symm
theorem ofInt_small {n a : Nat} (h : a < 2 ^ n) : (BitVec.ofInt n (Int.ofNat a)).toNat = a := by
  simp [Nat.mod_eq_of_lt h]
theorem intBits_run {P : Program} {k : IntKind} {x y : Int} {v : AV} :
    (bitsN Nat.land andH k x y = some v → Pure P (Op.intBits .and k x y) v) ∧ (bitsN Nat.lor orH k x y = some v → Pure P (Op.intBits .or k x y) v) ∧ (bitsN Nat.xor xorH k x y = some v → Pure P (Op.intBits .xor k x y) v) := by
  refine ⟨fun h => ?_, fun h => ?_, fun h => ?_⟩
  · refine bitsN_pure (r := k.wrap (BitVec.ofInt k.bits x &&& BitVec.ofInt k.bits y).toNat) h rfl ?_
    rintro a b rfl rfl ha hb
    rw [BitVec.toNat_and, ofInt_small ha, ofInt_small hb]; rfl
  · refine bitsN_pure (r := k.wrap (BitVec.ofInt k.bits x ||| BitVec.ofInt k.bits y).toNat) h rfl ?_
    rintro a b rfl rfl ha hb
    rw [BitVec.toNat_or, ofInt_small ha, ofInt_small hb]; rfl
  · refine bitsN_pure (r := k.wrap (BitVec.ofInt k.bits x ^^^ BitVec.ofInt k.bits y).toNat) h rfl ?_
    rintro a b rfl rfl ha hb
    rw [BitVec.toNat_xor, ofInt_small ha, ofInt_small hb]; rfl
theorem shift_shl {P : Program} {k j : IntKind} {x y : Int} {v : AV} (h : shlI k x y = some v) : Pure P (Op.shift .shl k x j y) v := by
  unfold shlI wI at h
  rw [ob_some] at h
  obtain ⟨s, hs, h⟩ := h
  cases h
  rw [natOf_some] at hs
  subst hs
  have : ¬ ((Int.ofNat s) < 0) := by simp
  unfold Op.shift
  simp only [this, if_false]
  refine Pure.int ?_
  rw [wrapI_eq, imul_eq, shN_eq]
  congr 2
theorem shift_shr {P : Program} {k j : IntKind} {x y : Int} {v : AV} (h : shrI k x y = some v) : Pure P (Op.shift .shr k x j y) v := by
  unfold shrI at h
  rw [ob_some] at h
  obtain ⟨s, hs, h⟩ := h
  cases h
  rw [natOf_some] at hs
  subst hs
  have : ¬ ((Int.ofNat s) < 0) := by simp
  unfold Op.shift
  simp only [this, if_false]
  refine Pure.int ?_
  rw [shN_eq]
  have hp : (2 : Int) ^ (min (Int.ofNat s).toNat k.bits) = ((2 ^ (min s k.bits) : Nat) : Int) := by simp
  rw [hp]
  have hpos : 0 < 2 ^ (min s k.bits) := Nat.two_pow_pos _
  show _ = shrX x (2 ^ (min s k.bits))
  generalize 2 ^ (min s k.bits) = q at hpos
  cases q with
  | zero => omega
  | succ q =>
    cases x with
    | ofNat a =>
      cases a with
      | zero => show (0 : Int).fdiv _ = Int.ofNat (0 / (q + 1)); simp
      | succ a => rfl
    | negSucc a => rfl
theorem tst_ik {k j : IntKind} {x : Option AV} {v : AV} (h : tst (ikeq k j) x = some v) : k = j ∧ x = some v := by
  rw [tst_some] at h; exact ⟨ikeq_iff.1 h.1, h.2⟩
theorem intBin_pure {P : Program} {op : BinOp} {t : TypeId} {k j : IntKind} {x y : Int} {v : AV} (h : intBin op k x j y = some v) : Pure P (Go.binOp op t (.int k x) (.int j y)) v := by
  cases op with
  | add =>
    obtain ⟨e, h'⟩ := tst_ik (show tst (ikeq k j) (wI k (iadd x y)) = some v from h)
    clear h; subst e; have h := h'; clear h'
    cases h
    simp only [Go.binOp, ne_eq, not_true_eq_false, if_false, Op.intArith]
    exact Pure.int (by rw [wrapI_eq, iadd_eq])
  | sub =>
    obtain ⟨e, h'⟩ := tst_ik (show tst (ikeq k j) (wI k (isub x y)) = some v from h)
    clear h; subst e; have h := h'; clear h'
    cases h
    simp only [Go.binOp, ne_eq, not_true_eq_false, if_false, Op.intArith]
    exact Pure.int (by rw [wrapI_eq, isub_eq])
  | mul =>
    obtain ⟨e, h'⟩ := tst_ik (show tst (ikeq k j) (wI k (imul x y)) = some v from h)
    clear h; subst e; have h := h'; clear h'
    cases h
    simp only [Go.binOp, ne_eq, not_true_eq_false, if_false, Op.intArith]
    exact Pure.int (by rw [wrapI_eq, imul_eq])
  | quo =>
    obtain ⟨e, h'⟩ := tst_ik (show tst (ikeq k j) (quoI k x y) = some v from h)
    clear h; subst e; have h := h'; clear h'
    unfold quoI wI at h
    simp only [ob_some, tst_some, natOf_some, notB_eq, Bool.not_eq_true'] at h
    obtain ⟨a, rfl, b, rfl, hb, h⟩ := h
    cases h
    have hb := ne_of_beq hb
    simp only [Go.binOp, ne_eq, not_true_eq_false, if_false, Op.intDiv]
    have : ¬ (Int.ofNat b = 0) := by simp; exact hb
    simp only [this, if_false]
    exact Pure.int (by rw [wrapI_eq]; rfl)
  | rem =>
    obtain ⟨e, h'⟩ := tst_ik (show tst (ikeq k j) (remI k x y) = some v from h)
    clear h; subst e; have h := h'; clear h'
    unfold remI at h
    simp only [ob_some, tst_some, natOf_some, notB_eq, Bool.not_eq_true'] at h
    obtain ⟨a, rfl, b, rfl, hb, h⟩ := h
    cases h
    have hb := ne_of_beq hb
    simp only [Go.binOp, ne_eq, not_true_eq_false, if_false, Op.intDiv]
    have : ¬ (Int.ofNat b = 0) := by simp; exact hb
    simp only [this, if_false]
    exact Pure.int rfl
  | and =>
    obtain ⟨e, h'⟩ := tst_ik (show tst (ikeq k j) (bitsN Nat.land andH k x y) = some v from h)
    clear h; subst e; have h := h'; clear h'
    simp only [Go.binOp, ne_eq, not_true_eq_false, if_false]
    exact intBits_run.1 h
  | or =>
    obtain ⟨e, h'⟩ := tst_ik (show tst (ikeq k j) (bitsN Nat.lor orH k x y) = some v from h)
    clear h; subst e; have h := h'; clear h'
    simp only [Go.binOp, ne_eq, not_true_eq_false, if_false]
    exact intBits_run.2.1 h
  | xor =>
    obtain ⟨e, h'⟩ := tst_ik (show tst (ikeq k j) (bitsN Nat.xor xorH k x y) = some v from h)
    clear h; subst e; have h := h'; clear h'
    simp only [Go.binOp, ne_eq, not_true_eq_false, if_false]
    exact intBits_run.2.2 h
  | shl => exact shift_shl (j := j) h
  | shr => exact shift_shr (j := j) h
  | andNot => cases h
  | eql =>
    obtain ⟨e, h'⟩ := tst_ik (show tst (ikeq k j) (bB (ieq x y)) = some v from h)
    clear h; subst e; have h := h'; clear h'
    cases h
    simp only [Go.binOp, ne_eq, not_true_eq_false, if_false, Op.intCmp]
    exact Pure.bool (by rw [ieq_eq])
  | neq =>
    obtain ⟨e, h'⟩ := tst_ik (show tst (ikeq k j) (bB (notB (ieq x y))) = some v from h)
    clear h; subst e; have h := h'; clear h'
    cases h
    simp only [Go.binOp, ne_eq, not_true_eq_false, if_false, Op.intCmp]
    exact Pure.bool (by rw [ieq_eq, notB_eq]; rfl)
  | lss =>
    obtain ⟨e, h'⟩ := tst_ik (show tst (ikeq k j) (bB (ilt x y)) = some v from h)
    clear h; subst e; have h := h'; clear h'
    cases h
    simp only [Go.binOp, ne_eq, not_true_eq_false, if_false, Op.intCmp]
    exact Pure.bool (by rw [ilt_eq])
  | leq =>
    obtain ⟨e, h'⟩ := tst_ik (show tst (ikeq k j) (bB (notB (ilt y x))) = some v from h)
    clear h; subst e; have h := h'; clear h'
    cases h
    simp only [Go.binOp, ne_eq, not_true_eq_false, if_false, Op.intCmp]
    exact Pure.bool (by rw [ilt_eq, notB_eq, Bool.eq_iff_iff]; simp)
  | gtr =>
    obtain ⟨e, h'⟩ := tst_ik (show tst (ikeq k j) (bB (ilt y x)) = some v from h)
    clear h; subst e; have h := h'; clear h'
    cases h
    simp only [Go.binOp, ne_eq, not_true_eq_false, if_false, Op.intCmp]
    exact Pure.bool (by rw [ilt_eq])
  | geq =>
    obtain ⟨e, h'⟩ := tst_ik (show tst (ikeq k j) (bB (notB (ilt x y))) = some v from h)
    clear h; subst e; have h := h'; clear h'
    cases h
    simp only [Go.binOp, ne_eq, not_true_eq_false, if_false, Op.intCmp]
    exact Pure.bool (by rw [ilt_eq, notB_eq, Bool.eq_iff_iff]; simp)
end Go.Ev
namespace Go.Ev
theorem map_ofNat_inj : ∀ {s t : List Nat}, (∀ x ∈ s, x < 256) → (∀ x ∈ t, x < 256) → s.map UInt8.ofNat = t.map UInt8.ofNat → s = t
  | [], [], _, _, _ => rfl
  | [], _ :: _, _, _, h => by simp at h
  | _ :: _, [], _, _, h => by simp at h
  | a :: s, b :: t, hs, ht, h => by
    simp only [List.map_cons, List.cons.injEq] at h
    have ha := hs a (by simp)
    have hb := ht b (by simp)
    have e : (UInt8.ofNat a).toNat = (UInt8.ofNat b).toNat := by rw [h.1]
    simp at e
    have : a = b := by omega
    rw [this, map_ofNat_inj (fun x hx => hs x (by simp [hx])) (fun x hx => ht x (by simp [hx])) h.2]
theorem str_eq {s t : List Nat} (hs : ∀ x ∈ s, x < 256) (ht : ∀ x ∈ t, x < 256) : (s.map UInt8.ofNat == t.map UInt8.ofNat) = lbeq s t := by
  rw [lbeq_eq, Bool.eq_iff_iff]
  simp only [beq_iff_eq, decide_eq_true_eq]
  exact ⟨map_ofNat_inj hs ht, fun h => by rw [h]⟩
theorem str_lt : ∀ {s t : List Nat}, (∀ x ∈ s, x < 256) → (∀ x ∈ t, x < 256) → Op.bytesLess (s.map UInt8.ofNat) (t.map UInt8.ofNat) = llt s t
  | s, [], _, _ => by rw [llt_nil_right]; cases s <;> rfl
  | [], b :: t, _, _ => rfl
  | a :: s, b :: t, hs, ht => by
    have ha := hs a (by simp)
    have hb := ht b (by simp)
    have ih := str_lt (s := s) (t := t) (fun x hx => hs x (by simp [hx])) (fun x hx => ht x (by simp [hx]))
    simp only [List.map_cons, Op.bytesLess, llt_cons, ih]
    have e1 : (UInt8.ofNat a < UInt8.ofNat b) = (a < b) := by
      rw [UInt8.lt_iff_toNat_lt]; simp; omega
    have e2 : (UInt8.ofNat a == UInt8.ofNat b) = Nat.beq a b := by
      rw [Bool.eq_iff_iff, beq_iff]
      simp only [beq_iff_eq]
      constructor
      · intro h
        have e : (UInt8.ofNat a).toNat = (UInt8.ofNat b).toNat := by rw [h]
        simp at e; omega
      · rintro rfl; rfl
    simp only [e1, e2]
    cases h : Nat.blt a b with
    | true => have := blt_iff.1 h; simp [this]
    | false => have := blt_false.1 h; cases Nat.beq a b <;> simp <;> omega
theorem strBin_sound {P : Program} {op : BinOp} {t : TypeId} {s u : List Nat} {v : AV} (h : strBin op s u = some v) (hs : ∀ x ∈ s, x < 256) (hu : ∀ x ∈ u, x < 256) :
    Pure P (Go.binOp op t (bytesV s) (bytesV u)) v := by
  have e : ∀ l : List Nat, (ByteArray.mk (l.map UInt8.ofNat).toArray).toList = l.map UInt8.ofNat := fun l => ByteArray.toList_mk _
  have lt1 := str_lt hs hu
  have lt2 := str_lt hu hs
  have eq1 := str_eq hs hu
  have key : ∀ (a b : List Nat), llt a b = false → llt b a = false → a = b := by
    intro a
    induction a with
    | nil => intro b h _; cases b with
      | nil => rfl
      | cons y b => simp [llt_nil_cons] at h
    | cons x a ih =>
      intro b h1 h2
      cases b with
      | nil => simp [llt_nil_cons] at h2
      | cons y b =>
        rw [llt_cons] at h1 h2
        cases hxy : Nat.blt x y with
        | true => simp [hxy] at h1
        | false =>
          cases hyx : Nat.blt y x with
          | true => simp [hyx] at h2
          | false =>
            have a1 := blt_false.1 hxy
            have a2 := blt_false.1 hyx
            have : x = y := by omega
            subst this
            simp only [hxy, cond_false, beq_self, cond_true] at h1 h2
            rw [ih b h1 h2]
  have excl : llt s u = true → llt u s = true → False := by
    have : ∀ (a b : List Nat), llt a b = true → llt b a = true → False := by
      intro a
      induction a with
      | nil => intro b _ h; simp [llt_nil_right] at h
      | cons x a ih =>
        intro b h1 h2
        cases b with
        | nil => simp [llt_nil_right] at h1
        | cons y b =>
          rw [llt_cons] at h1 h2
          cases hxy : Nat.blt x y with
          | true =>
            have a1 := blt_iff.1 hxy
            have a2 : Nat.blt y x = false := blt_false.2 (by omega)
            have a3 : Nat.beq y x = false := beq_false.2 (by omega)
            simp [a2, a3] at h2
          | false =>
            cases hyx : Nat.blt y x with
            | true =>
              have a1 := blt_iff.1 hyx
              have a3 : Nat.beq x y = false := beq_false.2 (by omega)
              simp [hxy, a3] at h1
            | false =>
              have a1 := blt_false.1 hxy
              have a2 := blt_false.1 hyx
              have : x = y := by omega
              subst this
              simp only [hxy, cond_false, beq_self, cond_true] at h1 h2
              exact ih b h1 h2
    exact this s u
  have irr : ∀ a : List Nat, llt a a = false := by
    intro a
    induction a with
    | nil => rfl
    | cons x a ih => rw [llt_cons, beq_self, ih]; simp [blt_false]
  unfold bytesV
  cases op with
  | add =>
    have h : tst (Nat.ble (Nat.add (llen s) (llen u)) 1048576) (some (.str (lapp s u))) = some v := h
    rw [tst_some] at h
    obtain ⟨hl, h⟩ := h
    cases h
    have hl := ble_iff.1 hl
    simp only [llen_eq, Nat.add_eq] at hl
    have hz : ∀ l : List Nat, (ByteArray.mk (l.map UInt8.ofNat).toArray).size = l.length := fun l => by simp [ByteArray.size]
    refine ⟨.string ⟨((s ++ u).map UInt8.ofNat).toArray⟩, fun w => ?_, fun E => ?_⟩
    · simp only [Go.binOp, Op.stringOp, hz]
      have : ¬ (((s.length + u.length : Nat) : Int) > IntKind.i64.max) := by
        have : IntKind.i64.max = 9223372036854775807 := rfl
        omega
      simp only [this, if_false, Sem.run_pure]
      congr 2
      apply ByteArray.ext
      simp [ByteArray.data_append]
    · simp only [VR, bytesV, lapp_eq]
      refine ⟨trivial, fun x hx => ?_⟩
      rcases List.mem_append.1 hx with hx | hx
      · exact hs x hx
      · exact hu x hx
  | eql =>
    have h : bB (lbeq s u) = some v := h
    cases h
    simp only [Go.binOp, Op.stringOp, e]
    exact Pure.bool eq1
  | neq =>
    have h : bB (notB (lbeq s u)) = some v := h
    cases h
    simp only [Go.binOp, Op.stringOp, e]
    exact Pure.bool (by rw [eq1, notB_eq])
  | lss =>
    have h : bB (llt s u) = some v := h
    cases h
    simp only [Go.binOp, Op.stringOp, e]
    exact Pure.bool lt1
  | gtr =>
    have h : bB (llt u s) = some v := h
    cases h
    simp only [Go.binOp, Op.stringOp, e]
    refine Pure.bool ?_
    rw [lt1, eq1, lbeq_eq]
    cases h1 : llt s u with
    | true => cases h2 : llt u s with
      | true => exact (excl h1 h2).elim
      | false => simp
    | false => cases h2 : llt u s with
      | true =>
        have : s ≠ u := fun e => by rw [e, irr] at h2; cases h2
        simp [this]
      | false => simp [key s u h1 h2]
  | leq =>
    have h : bB (notB (llt u s)) = some v := h
    cases h
    simp only [Go.binOp, Op.stringOp, e]
    refine Pure.bool ?_
    rw [lt1, eq1, lbeq_eq, notB_eq]
    cases h1 : llt s u with
    | true => cases h2 : llt u s with
      | true => exact (excl h1 h2).elim
      | false => simp
    | false => cases h2 : llt u s with
      | true =>
        have : s ≠ u := fun e => by rw [e, irr] at h2; cases h2
        simp [this]
      | false => simp [key s u h1 h2]
  | geq =>
    have h : bB (notB (llt s u)) = some v := h
    cases h
    simp only [Go.binOp, Op.stringOp, e]
    exact Pure.bool (by rw [lt1, notB_eq])
  | _ => cases h
end Go.Ev
namespace Go.Ev
theorem nilKind_iff {x : AV} : (nilKind x = 1 ↔ x = .nptr) ∧ (nilKind x = 2 ↔ x = .nsl) ∧ (nilKind x = 3 ↔ x = .nmap) ∧ (nilKind x = 4 ↔ x = .nchan) ∧ (nilKind x = 5 ↔ x = .nfn) ∧ (nilKind x = 6 ↔ x = .nifc) := by
  cases x <;> simp [nilKind]
theorem refKind_iff {x : AV} : (refKind x = 1 ↔ ∃ i o, x = .ptr i o) ∧ (refKind x = 2 ↔ ∃ i o n c, x = .sl i o n c) ∧ (refKind x = 3 ↔ ∃ i, x = .map i) ∧ (refKind x = 4 ↔ ∃ i, x = .chan i) ∧ (refKind x = 5 ↔ ∃ f a b, x = .fn f a b) ∧ (refKind x = 6 ↔ ∃ t v, x = .ifc t v) := by
  cases x <;> simp [refKind]
theorem typeKind_cases {d : TypeDesc} (h : typeKind d ≠ 0) : (∃ e, d = .pointer e) ∨ (∃ e, d = .slice e) ∨ (∃ k e, d = .map k e) ∨ (∃ a e, d = .chan a e) ∨ (∃ a b c, d = .func a b c) ∨ ∃ m, d = .interface m := by
  cases d <;> simp [typeKind] at h ⊢
theorem sl_val {E : Env} {i o n : Nat} {c : Cap} {v : Value} (h : VR E (.sl i o n c) v) : ∃ l k, E.loc i = some l ∧ v = .slice (some ⟨l.blk, l.off + o, none⟩) n k ∧ n ≤ k := by
  cases c with
  | ex m => simp only [VR] at h; obtain ⟨l, h1, h2, h3⟩ := h; exact ⟨l, m, h1, h3, h2⟩
  | rest k => simp only [VR] at h; obtain ⟨l, h1, h2, h3⟩ := h; exact ⟨l, _, h1, h3, by omega⟩
section
variable {P : Program} {tt : T Ty}
theorem eqRef_cases {t : TypeDesc} {x y : AV} {b : Bool} (h : eqRef tt t x y = some b) : typeKind t ≠ 0 ∧
    ((nilKind x = typeKind t ∧ nilKind y = typeKind t ∧ typeKind t ≠ 6 ∧ b = true) ∨ (nilKind x = typeKind t ∧ refKind y = typeKind t ∧ b = false) ∨ (refKind x = typeKind t ∧ nilKind y = typeKind t ∧ b = false) ∨
      (∃ e d i o, t = .pointer e ∧ tt.get e = some d ∧ x = .ptr i o ∧ y = .ptr i o ∧ b = true)) := by
  unfold eqRef at h
  simp only [tst_some, notB_eq, Bool.not_eq_true'] at h
  refine ⟨ne_of_beq h.1, ?_⟩
  have h := h.2
  cases h1 : Nat.beq (nilKind x) (typeKind t) with
  | true =>
    rw [h1, iteB_true] at h
    cases h2 : Nat.beq (nilKind y) (typeKind t) with
    | true =>
      simp only [h2, iteB_true, tst_some, Bool.not_eq_true'] at h
      exact .inl ⟨eq_of_beq h1, eq_of_beq h2, ne_of_beq h.1, by cases h.2; rfl⟩
    | false =>
      simp only [h2, iteB_false, tst_some] at h
      exact .inr (.inl ⟨eq_of_beq h1, eq_of_beq h.1, by cases h.2; rfl⟩)
  | false =>
    rw [h1, iteB_false, tst_some] at h
    obtain ⟨hr, h⟩ := h
    cases h2 : Nat.beq (nilKind y) (typeKind t) with
    | true =>
      rw [h2, iteB_true] at h
      exact .inr (.inr (.inl ⟨eq_of_beq hr, eq_of_beq h2, by cases h; rfl⟩))
    | false =>
      rw [h2, iteB_false] at h
      simp only [ob_some, tst_some] at h
      obtain ⟨e, he, hd, p, hp, q, hq, h3, h4, h⟩ := h
      rw [dPtrT_some] at he
      rw [dPtr_some] at hp hq
      rw [isSomeB_eq, Option.isSome_iff_exists] at hd
      obtain ⟨d, hd⟩ := hd
      have h3 := eq_of_beq h3
      have h4 := eq_of_beq h4
      exact .inr (.inr (.inr ⟨e, d, p.1, p.2, he, hd, hp, by rw [hq, h3, h4], by cases h; rfl⟩))
theorem eqRef_sound (hT : TTok P tt) {E : Env} {t : TypeId} {d : TypeDesc} (hu : P.underlying t = some d) {x y : AV} {b : Bool} (h : eqRef tt d x y = some b) {xv yv : Value} (hx : VR E x xv) (hy : VR E y yv) (n : Nat) (w : World) :
    (Op.equalIn (n + 1) t xv yv).run P w = .ok b w := by
  obtain ⟨hk, hc⟩ := eqRef_cases h
  have hU : ∀ w, (underlying t).run P w = .ok d w := run_underlying hu
  have hn := @nilKind_iff
  have hr := @refKind_iff
  rcases hc with ⟨h1, h2, h6, rfl⟩ | ⟨h1, h2, rfl⟩ | ⟨h1, h2, rfl⟩ | ⟨e, d', i, o, rfl, he, rfl, rfl, rfl⟩
  · rcases typeKind_cases hk with ⟨_, rfl⟩ | ⟨_, rfl⟩ | ⟨_, _, rfl⟩ | ⟨_, _, rfl⟩ | ⟨_, _, _, rfl⟩ | ⟨_, rfl⟩ <;> simp only [typeKind] at h1 h2 h6 <;>
      first
        | (rw [hn.1] at h1 h2; subst h1; subst h2; simp only [VR] at hx hy; subst hx; subst hy; simp [Op.equalIn, hU])
        | (rw [hn.2.1] at h1 h2; subst h1; subst h2; simp only [VR] at hx hy; subst hx; subst hy; simp [Op.equalIn, hU])
        | (rw [hn.2.2.1] at h1 h2; subst h1; subst h2; simp only [VR] at hx hy; subst hx; subst hy; simp [Op.equalIn, hU])
        | (rw [hn.2.2.2.1] at h1 h2; subst h1; subst h2; simp only [VR] at hx hy; subst hx; subst hy; simp [Op.equalIn, hU])
        | (rw [hn.2.2.2.2.1] at h1 h2; subst h1; subst h2; simp only [VR] at hx hy; subst hx; subst hy; simp [Op.equalIn, hU])
        | exact absurd rfl h6
  · rcases typeKind_cases hk with ⟨_, rfl⟩ | ⟨_, rfl⟩ | ⟨_, _, rfl⟩ | ⟨_, _, rfl⟩ | ⟨_, _, _, rfl⟩ | ⟨_, rfl⟩ <;> simp only [typeKind] at h1 h2 <;>
      first
        | (rw [hn.1] at h1; rw [hr.1] at h2; obtain ⟨i, o, rfl⟩ := h2; subst h1; simp only [VR] at hx hy; subst hx; obtain ⟨l, _, rfl⟩ := hy; simp [Op.equalIn, hU])
        | (rw [hn.2.1] at h1; rw [hr.2.1] at h2; obtain ⟨i, o, m, c, rfl⟩ := h2; subst h1; simp only [VR] at hx; subst hx; obtain ⟨l, k, _, rfl, _⟩ := sl_val hy; simp [Op.equalIn, hU])
        | (rw [hn.2.2.1] at h1; rw [hr.2.2.1] at h2; obtain ⟨i, rfl⟩ := h2; subst h1; simp only [VR] at hx hy; subst hx; obtain ⟨l, _, rfl⟩ := hy; simp [Op.equalIn, hU])
        | (rw [hn.2.2.2.1] at h1; rw [hr.2.2.2.1] at h2; obtain ⟨i, rfl⟩ := h2; subst h1; simp only [VR] at hx hy; subst hx; obtain ⟨l, _, rfl⟩ := hy; simp [Op.equalIn, hU])
        | (rw [hn.2.2.2.2.1] at h1; rw [hr.2.2.2.2.1] at h2; obtain ⟨f, a, b, rfl⟩ := h2; subst h1; simp only [VR] at hx hy; subst hx; obtain ⟨l, m, rfl, _⟩ := hy; simp [Op.equalIn, hU])
        | (rw [hn.2.2.2.2.2] at h1; rw [hr.2.2.2.2.2] at h2; obtain ⟨u, v, rfl⟩ := h2; subst h1; simp only [VR] at hx hy; subst hx; obtain ⟨l, rfl, _⟩ := hy; simp [Op.equalIn, hU])
  · rcases typeKind_cases hk with ⟨_, rfl⟩ | ⟨_, rfl⟩ | ⟨_, _, rfl⟩ | ⟨_, _, rfl⟩ | ⟨_, _, _, rfl⟩ | ⟨_, rfl⟩ <;> simp only [typeKind] at h1 h2 <;>
      first
        | (rw [hn.1] at h2; rw [hr.1] at h1; obtain ⟨i, o, rfl⟩ := h1; subst h2; simp only [VR] at hx hy; subst hy; obtain ⟨l, _, rfl⟩ := hx; simp [Op.equalIn, hU])
        | (rw [hn.2.1] at h2; rw [hr.2.1] at h1; obtain ⟨i, o, m, c, rfl⟩ := h1; subst h2; simp only [VR] at hy; subst hy; obtain ⟨l, k, _, rfl, _⟩ := sl_val hx; simp [Op.equalIn, hU])
        | (rw [hn.2.2.1] at h2; rw [hr.2.2.1] at h1; obtain ⟨i, rfl⟩ := h1; subst h2; simp only [VR] at hx hy; subst hy; obtain ⟨l, _, rfl⟩ := hx; simp [Op.equalIn, hU])
        | (rw [hn.2.2.2.1] at h2; rw [hr.2.2.2.1] at h1; obtain ⟨i, rfl⟩ := h1; subst h2; simp only [VR] at hx hy; subst hy; obtain ⟨l, _, rfl⟩ := hx; simp [Op.equalIn, hU])
        | (rw [hn.2.2.2.2.1] at h2; rw [hr.2.2.2.2.1] at h1; obtain ⟨f, a, b, rfl⟩ := h1; subst h2; simp only [VR] at hx hy; subst hy; obtain ⟨l, m, rfl, _⟩ := hx; simp [Op.equalIn, hU])
        | (rw [hn.2.2.2.2.2] at h2; rw [hr.2.2.2.2.2] at h1; obtain ⟨u, v, rfl⟩ := h1; subst h2; simp only [VR] at hx hy; subst hy; obtain ⟨l, rfl, _⟩ := hx; simp [Op.equalIn, hU])
  · simp only [VR] at hx hy
    obtain ⟨l, hl, rfl⟩ := hx
    obtain ⟨l', hl', rfl⟩ := hy
    rw [hl] at hl'
    cases hl'
    simp only [Op.equalIn, Sem.run_bind, hU, Result.andThen_ok, hT.runS he]
    by_cases hz : d'.size = 0 <;> simp [hz, sameAddr]
theorem eqS_sound (hT : TTok P tt) {E : Env} {t : TypeId} {d : TypeDesc} (hu : P.underlying t = some d) {x y : AV} {b : Bool} (h : eqS tt d x y = some b) {xv yv : Value} (hx : VR E x xv) (hy : VR E y yv) (n : Nat) (w : World) :
    (Op.equalIn (n + 1) t xv yv).run P w = .ok b w := by
  have hU : ∀ w, (underlying t).run P w = .ok d w := run_underlying hu
  unfold eqS at h
  cases hi : dInt x with
  | some p =>
    simp only [hi, oel_some, ob_some, tst_some] at h
    obtain ⟨q, hq, k, hk, h1, h2⟩ := h
    rw [dInt_some] at hi hq
    rw [dIntT_some] at hk
    subst hi; subst hq; subst hk
    cases h2
    have := ikeq_iff.1 h1
    simp only [VR] at hx hy
    subst hx; subst hy
    simp [Op.equalIn, hU, this, ieq_eq]
  | none =>
    simp only [hi, oel_none] at h
    cases hs : dStr x with
    | some s =>
      simp only [hs, oel_some, ob_some, tst_some] at h
      obtain ⟨u, hq, h1, h2⟩ := h
      rw [dStr_some] at hs hq
      rw [isStrT_iff] at h1
      subst hs; subst hq; subst h1
      cases h2
      simp only [VR] at hx hy
      obtain ⟨rfl, h3⟩ := hx
      obtain ⟨rfl, h4⟩ := hy
      have e : ((ByteArray.mk (s.map UInt8.ofNat).toArray) == (ByteArray.mk (u.map UInt8.ofNat).toArray)) = lbeq s u := by
        show ((s.map UInt8.ofNat).toArray == (u.map UInt8.ofNat).toArray) = _
        rw [lbeq_eq, Bool.eq_iff_iff]
        simp only [beq_iff_eq, decide_eq_true_eq]
        constructor
        · intro h
          exact map_ofNat_inj h3 h4 (by simpa using congrArg Array.toList h)
        · rintro rfl; rfl
      simp only [bytesV, Op.equalIn, Sem.run_bind, hU, Result.andThen_ok, Sem.run_pure, e]
    | none =>
      simp only [hs, oel_none] at h
      cases hb : dBool x with
      | some a =>
        simp only [hb, oel_some, ob_some, tst_some] at h
        obtain ⟨c, hq, h1, h2⟩ := h
        rw [dBool_some] at hb hq
        rw [isBoolT_iff] at h1
        subst hb; subst hq; subst h1
        cases h2
        simp only [VR] at hx hy
        subst hx; subst hy
        simp [Op.equalIn, hU, beqB_eq]
      | none =>
        simp only [hb, oel_none] at h
        exact eqRef_sound hT hu h hx hy n w
end
end Go.Ev
namespace Go.Ev
section
variable {P : Program} {tt : T Ty}
theorem run_partV (hT : TTok P tt) {E : Env} {t : TypeId} {d : Ty} (ht : tt.get t = some d) {cs : RL} {off : Nat} {v : AV} {vs : List Value} (h : partV d cs off = some v) (hc : CR E (rflat cs) vs) :
    ∃ y, (∀ w, (part t vs.toArray off).run P w = .ok y w) ∧ VR E v y ∧ (d.agg = false → cellVal y) := by
  have hs := partV_sound h hc
  cases ha : d.agg with
  | true =>
    obtain ⟨h1, h2⟩ := hs.1 ha
    refine ⟨_, fun w => ?_, h2, fun h => by simp at h⟩
    unfold part
    simp only [Sem.run_bind, hT.runA ht, Result.andThen_ok, ha, if_true, hT.runS ht, Sem.run_pure]
    congr 2
    apply Array.toList_inj.1
    simp [List.extract_eq_take_drop]
  | false =>
    obtain ⟨y, h1, h2, h3⟩ := hs.2 ha
    refine ⟨y, fun w => ?_, h2, fun _ => h3⟩
    unfold part
    simp only [Sem.run_bind, hT.runA ht, Result.andThen_ok, ha, Bool.false_eq_true, if_false, List.getElem?_toArray, h1, Sem.run_pure]
theorem partV_flat {d : Ty} {cs : RL} {off : Nat} {v : AV} (ha : d.agg = false) (h : rget cs off = some v) : partV d cs off = some v := by
  unfold partV; rw [ha, iteB_false]; exact h
theorem fieldsEq_nil (x y : RL) : fieldsEq tt x y [] = some true := rfl
theorem fieldsEq_cons (x y : RL) (f : Field) (fs : List Field) : fieldsEq tt x y (f :: fs) = ob (fieldEq1 tt x y f) fun b => iteB b (fieldsEq tt x y fs) (some false) := rfl
theorem fieldsEq_sound (hT : TTok P tt) {E : Env} {x y : RL} {xs ys : List Value} (hx : CR E (rflat x) xs) (hy : CR E (rflat y) ys) (n : Nat) (w : World) :
    ∀ {fs : List Field} {b : Bool}, (∀ f ∈ fs, f.name ≠ "_") → fieldsEq tt x y fs = some b → (Op.eqFields (n + 1) xs.toArray ys.toArray fs).run P w = .ok b w
  | [], b, _, h => by rw [fieldsEq_nil] at h; cases h; rfl
  | f :: fs, b, hn, h => by
    rw [fieldsEq_cons, ob_some] at h
    obtain ⟨c, hc, h⟩ := h
    unfold fieldEq1 at hc
    simp only [ob_some, tst_some, notB_eq, Bool.not_eq_true'] at hc
    obtain ⟨d, hd, ha, u, hu, v, hv, he⟩ := hc
    obtain ⟨p, hp, hp2, _⟩ := run_partV hT hd (partV_flat ha hu) hx
    obtain ⟨q, hq, hq2, _⟩ := run_partV hT hd (partV_flat ha hv) hy
    have hf := hn f (by simp)
    unfold Op.eqFields
    simp only [hf, ne_eq, not_false_eq_true, if_true, Sem.run_bind, hp, hq, Result.andThen_ok, eqS_sound hT (hT.und hd) he hp2 hq2]
    cases c with
    | true => simp only [Bool.not_true, Bool.false_eq_true, if_false]; exact fieldsEq_sound hT hx hy n w (fun g hg => hn g (by simp [hg])) h
    | false => simp only [iteB_false, Option.some.injEq] at h; subst h; simp
theorem eqAgg_sound {C : Cx} (hT : TTok C.P C.tt) {E : Env} {t : TypeId} {a b : RL} {r : Bool} (h : eqAgg C t a b = some r) {xs ys : List Value} (hx : CR E (rflat a) xs) (hy : CR E (rflat b) ys) :
    C.P.eqGuardType C.P.depth t = false ∧ ∀ n w, (Op.equalIn (n + 2) t (.agg xs.toArray) (.agg ys.toArray)).run C.P w = .ok r w := by
  unfold eqAgg at h
  simp only [ob_some, tst_some, notB_eq, Bool.not_eq_true', lall_eq, List.all_eq_true, beq_eq_false_iff_ne] at h
  obtain ⟨d, hd, fs, hfs, hn, hs, hg, h⟩ := h
  rw [dStructT_some] at hfs
  refine ⟨hg, fun n w => ?_⟩
  have hu := hT.und hd
  rw [hfs] at hu
  have hf : C.P.fieldsOf t = fs.toArray := by simp [Program.fieldsOf, hu]
  rw [run_equalIn_struct w (n + 1) t _ _ (by rw [hf]; exact hu) hs, hf]
  exact fieldsEq_sound hT hx hy n w hn h
theorem isConst_iff {x : Operand} : isConst x = true ↔ ∃ v, x = .const v := by cases x <;> simp [isConst]
theorem eqGuard_nil {op : BinOp} {t : TypeId} {x y : Operand} (h : isConst x = true ∨ isConst y = true) (w : World) : (eqGuard op t x y .nilIface .nilIface).run P w = .ok () w := by
  rcases h with h | h
  · obtain ⟨v, rfl⟩ := isConst_iff.1 h
    cases op <;> simp [eqGuard]
  · obtain ⟨v, rfl⟩ := isConst_iff.1 h
    cases op <;> simp [eqGuard]
theorem eqGuard_pure {op : BinOp} {t : TypeId} {x y : Operand} {a b : Value} (h1 : a = .nilIface → b = .nilIface → isConst x = true ∨ isConst y = true) (h2 : ∀ p q, a = .agg p → b = .agg q → P.eqGuardType P.depth t = false) (w : World) :
    (eqGuard op t x y a b).run P w = .ok () w := by
  by_cases hn : a = .nilIface ∧ b = .nilIface
  · obtain ⟨rfl, rfl⟩ := hn
    exact eqGuard_nil (h1 rfl rfl) w
  · by_cases ha : ∃ p q, a = .agg p ∧ b = .agg q
    · obtain ⟨p, q, rfl, rfl⟩ := ha
      exact run_eqGuard_agg w op t x y p q (h2 _ _ rfl rfl)
    · clear h1 h2
      cases op <;> first
        | rfl
        | (unfold eqGuard
           rw [if_neg (by decide)]
           split
           · exact absurd ⟨rfl, rfl⟩ hn
           · exact absurd ⟨_, _, rfl, rfl⟩ ha
           · rfl)
theorem VR_agg {E : Env} {a : AV} {xs : Array Value} (h : VR E a (.agg xs)) : ∃ cs, a = .agg cs := by
  cases a with
  | agg cs => exact ⟨cs, rfl⟩
  | sl i o n c => cases c <;> simp only [VR] at h <;> obtain ⟨_, _, _, h⟩ := h <;> cases h
  | opq k => simp only [VR] at h; rw [← h.1] at h; exact absurd h.2 (by simp [cellVal])
  | str s => simp [VR, bytesV] at h
  | _ => simp [VR] at h
theorem VR_nifc {E : Env} {a : AV} (h : VR E a .nilIface) : a = .nifc ∨ ∃ k, a = .opq k := by
  cases a with
  | nifc => exact .inl rfl
  | opq k => exact .inr ⟨k, rfl⟩
  | sl i o n c => cases c <;> simp only [VR] at h <;> obtain ⟨_, _, _, h⟩ := h <;> cases h
  | str s => simp [VR, bytesV] at h
  | _ => simp [VR] at h
theorem VR_of_pure {s : Sem Value} {v : AV} (h : Pure P s v) (E : Env) : ∃ z, (∀ w, s.run P w = .ok z w) ∧ VR E v z := let ⟨z, h1, h2⟩ := h; ⟨z, h1, h2 E⟩
theorem eqBin_some {op : BinOp} {r : Option Bool} {v : AV} (h : eqBin op r = some v) : ∃ b, r = some b ∧ ((op = .eql ∧ v = .bool b) ∨ (op = .neq ∧ v = .bool !b)) := by
  cases op <;> simp only [eqBin, beNo, beEql, beNeq, ob_some, bB, Option.some.injEq, reduceCtorEq] at h
  · obtain ⟨b, h1, rfl⟩ := h; exact ⟨b, h1, .inl ⟨rfl, rfl⟩⟩
  · obtain ⟨b, h1, rfl⟩ := h; exact ⟨b, h1, .inr ⟨rfl, by rw [notB_eq]⟩⟩
/-- The operands for which `binOp` asks for equality. -/
def eqForm : Value → Value → Prop
  | .int _ _, .int _ _ | .float _ _, .float _ _ | .complex _ _ _, .complex _ _ _ | .string _, .string _ => False
  | _, _ => True
theorem binOp_eql {t : TypeId} {x y : Value} (h : eqForm x y) : Go.binOp .eql t x y = (do pure (.bool (← Op.equal t x y))) := by
  unfold Go.binOp
  split <;> first | rfl | contradiction | (simp [eqForm] at h; done) | (exfalso; simp_all; done)
theorem binOp_neq {t : TypeId} {x y : Value} (h : eqForm x y) : Go.binOp .neq t x y = (do pure (.bool (!(← Op.equal t x y)))) := by
  unfold Go.binOp
  split <;> first | rfl | contradiction | (simp [eqForm] at h; done) | (exfalso; simp_all; done)
theorem eqForm_agg (x y : Array Value) : eqForm (.agg x) (.agg y) := by simp [eqForm]
theorem not_opq {E : Env} {k : Nat} {v : Value} : VR E (.opq k) v ↔ v = E.om k ∧ cellVal v := by simp [VR]
theorem intForm {E : Env} {x : AV} {k : IntKind} {n : Int} (h : VR E x (.int k n)) : x = .int k n ∨ ∃ j, x = .opq j := by
  cases x with
  | int j m => simp only [VR] at h; cases h; exact .inl rfl
  | opq k => exact .inr ⟨k, rfl⟩
  | sl i o n c => cases c <;> simp only [VR] at h <;> obtain ⟨_, _, _, h⟩ := h <;> cases h
  | str s => simp [VR, bytesV] at h
  | _ => simp [VR] at h
theorem strForm {E : Env} {x : AV} {s : ByteArray} (h : VR E x (.string s)) : (∃ t, x = .str t) ∨ ∃ j, x = .opq j := by
  cases x with
  | str s => exact .inl ⟨s, rfl⟩
  | opq k => exact .inr ⟨k, rfl⟩
  | sl i o n c => cases c <;> simp only [VR] at h <;> obtain ⟨_, _, _, h⟩ := h <;> cases h
  | _ => simp [VR] at h
theorem fltForm {E : Env} {x : AV} {k : FloatKind} {n : Nat} (h : VR E x (.float k n)) : ∃ j, x = .opq j := by
  cases x with
  | opq k => exact ⟨k, rfl⟩
  | sl i o n c => cases c <;> simp only [VR] at h <;> obtain ⟨_, _, _, h⟩ := h <;> cases h
  | str s => simp [VR, bytesV] at h
  | _ => simp [VR] at h
theorem cpxForm {E : Env} {x : AV} {k : FloatKind} {n m : Nat} (h : VR E x (.complex k n m)) : ∃ j, x = .opq j := by
  cases x with
  | opq k => exact ⟨k, rfl⟩
  | sl i o n c => cases c <;> simp only [VR] at h <;> obtain ⟨_, _, _, h⟩ := h <;> cases h
  | str s => simp [VR, bytesV] at h
  | _ => simp [VR] at h
theorem eqS_shape {d : TypeDesc} {x y : AV} {b : Bool} (h : eqS tt d x y = some b) : (∀ j, x ≠ .opq j) ∧ (∀ j, y ≠ .opq j) := by
  constructor
  · rintro j rfl
    simp only [eqS, dInt, dStr, dBool, oel_none] at h
    obtain ⟨h0, h | h | h | ⟨e, d, i, o, _, _, h, _⟩⟩ := eqRef_cases h
    · exact h0 h.1.symm
    · exact h0 h.1.symm
    · exact h0 h.1.symm
    · cases h
  · rintro j rfl
    have e1 : dInt (.opq j) = none := rfl
    have e2 : dStr (.opq j) = none := rfl
    have e3 : dBool (.opq j) = none := rfl
    unfold eqS at h
    cases hi : dInt x with
    | some p => simp [hi, e1] at h
    | none =>
      cases hs : dStr x with
      | some p => simp [hi, hs, e2] at h
      | none =>
        cases hb : dBool x with
        | some p => simp [hi, hs, hb, e3] at h
        | none =>
          simp only [hi, hs, hb, oel_none] at h
          obtain ⟨h0, h | h | h | ⟨e, d, i, o, _, _, _, h, _⟩⟩ := eqRef_cases h
          · exact h0 h.2.1.symm
          · exact h0 h.2.1.symm
          · exact h0 h.2.1.symm
          · cases h
theorem eqV_sound {C : Cx} (hT : TTok C.P C.tt) {E : Env} {op : BinOp} {t : TypeId} {cx : Bool} {x y : AV} {r : Bool} (h : eqV C t cx x y = some r) {xv yv : Value} (hx : VR E x xv) (hy : VR E y yv) :
    (xv = .nilIface → yv = .nilIface → cx = true) ∧ (∀ p q, xv = .agg p → yv = .agg q → C.P.eqGuardType C.P.depth t = false) ∧
    (dInt x = none → dStr x = none → eqForm xv yv) ∧ ∀ w, (Op.equal t xv yv).run C.P w = .ok r w := by
  unfold eqV at h
  cases ha : dAgg x with
  | some a =>
    simp only [ha, oel_some, ob_some] at h
    obtain ⟨b, hb, h⟩ := h
    rw [dAgg_some] at ha hb
    subst ha; subst hb
    simp only [VR] at hx hy
    obtain ⟨xs, rfl, hx⟩ := hx
    obtain ⟨ys, rfl, hy⟩ := hy
    obtain ⟨hg, hr⟩ := eqAgg_sound hT h (VRR_iff.1 hx) (VRR_iff.1 hy)
    exact ⟨fun h => (by cases h), fun _ _ _ _ => hg, fun _ _ => eqForm_agg _ _, fun w => hr 9998 w⟩
  | none =>
    simp only [ha, oel_none, andB_eq] at h
    cases hn : isNifc x && isNifc y with
    | true =>
      simp only [hn, iteB_true, ob_some, tst_some] at h
      rw [Bool.and_eq_true, isNifc_iff, isNifc_iff] at hn
      obtain ⟨rfl, rfl⟩ := hn
      obtain ⟨d, hd, hi, hc, h⟩ := h
      cases h
      simp only [VR] at hx hy
      subst hx; subst hy
      rw [isIfcT_iff] at hi
      obtain ⟨m, hm⟩ := hi
      refine ⟨fun _ _ => hc, fun _ _ h => by (cases h), fun _ _ => by simp [eqForm], fun w => ?_⟩
      have := hT.runU hd w
      rw [hm] at this
      show (Op.equalIn (9999 + 1) t _ _).run C.P w = _
      rw [Op.equalIn]
      simp only [Sem.run_bind, this, Result.andThen_ok, Sem.run_pure]
    | false =>
      simp only [hn, iteB_false, ob_some] at h
      obtain ⟨d, hd, h⟩ := h
      obtain ⟨ho1, ho2⟩ := eqS_shape h
      refine ⟨fun h1 h2 => ?_, fun p q h1 h2 => ?_, fun h1 h2 => ?_, fun w => eqS_sound hT (hT.und hd) h hx hy 9999 w⟩
      · subst h1; subst h2
        rcases VR_nifc hx with rfl | ⟨k, rfl⟩
        · rcases VR_nifc hy with rfl | ⟨k, rfl⟩
          · simp [isNifc] at hn
          · exact absurd rfl (ho2 k)
        · exact absurd rfl (ho1 k)
      · subst h1
        obtain ⟨cs, rfl⟩ := VR_agg hx
        simp [dAgg] at ha
      · unfold eqForm
        split
        · rcases intForm hx with rfl | ⟨k, rfl⟩
          · simp [dInt] at h1
          · exact ho1 k rfl
        · obtain ⟨k, rfl⟩ := fltForm hx; exact ho1 k rfl
        · obtain ⟨k, rfl⟩ := cpxForm hx; exact ho1 k rfl
        · rcases strForm hx with ⟨s, rfl⟩ | ⟨k, rfl⟩
          · simp [dStr] at h2
          · exact ho1 k rfl
        · trivial
theorem binV_sound {C : Cx} (hT : TTok C.P C.tt) {E : Env} {op : BinOp} {t : TypeId} {x y : Operand} {a b v : AV} (h : binV C op t (orB (isConst x) (isConst y)) a b = some v) {av bv : Value} (ha : VR E a av) (hb : VR E b bv) :
    ∃ z, (∀ w, (do eqGuard op t x y av bv; Go.binOp op t av bv : Sem Value).run C.P w = .ok z w) ∧ VR E v z := by
  unfold binV at h
  cases hi : dInt a with
  | some p =>
    simp only [hi, oel_some, ob_some] at h
    obtain ⟨q, hq, h⟩ := h
    rw [dInt_some] at hi hq
    subst hi; subst hq
    simp only [VR] at ha hb
    subst ha; subst hb
    obtain ⟨z, h1, h2⟩ := VR_of_pure (intBin_pure (P := C.P) (t := t) h) E
    exact ⟨z, fun w => by simp only [Sem.run_bind, eqGuard_pure (P := C.P) (op := op) (t := t) (x := x) (y := y) (a := .int p.1 p.2) (b := .int q.1 q.2) (fun h => by cases h) (fun _ _ h => by cases h) w, Result.andThen_ok, h1], h2⟩
  | none =>
    simp only [hi, oel_none] at h
    cases hs : dStr a with
    | some s =>
      simp only [hs, oel_some, ob_some] at h
      obtain ⟨u, hq, h⟩ := h
      rw [dStr_some] at hs hq
      subst hs; subst hq
      simp only [VR] at ha hb
      obtain ⟨rfl, ha⟩ := ha
      obtain ⟨rfl, hb⟩ := hb
      obtain ⟨z, h1, h2⟩ := VR_of_pure (strBin_sound (P := C.P) (t := t) h ha hb) E
      exact ⟨z, fun w => by simp only [Sem.run_bind, eqGuard_pure (P := C.P) (op := op) (t := t) (x := x) (y := y) (a := bytesV s) (b := bytesV u) (fun h => by simp [bytesV] at h) (fun _ _ h => by simp [bytesV] at h) w, Result.andThen_ok, h1], h2⟩
    | none =>
      simp only [hs, oel_none] at h
      obtain ⟨r, hr, h⟩ := eqBin_some h
      obtain ⟨h1, h2, h3, h4⟩ := eqV_sound (op := op) hT hr ha hb
      have hg := eqGuard_pure (P := C.P) (op := op) (t := t) (x := x) (y := y) (a := av) (b := bv) (fun p q => by have := h1 p q; rwa [orB_eq, Bool.or_eq_true] at this) h2
      rcases h with ⟨rfl, rfl⟩ | ⟨rfl, rfl⟩
      · exact ⟨.bool r, fun w => by simp only [Sem.run_bind, hg, Result.andThen_ok, binOp_eql (h3 hi hs), h4, Sem.run_pure], by simp [VR]⟩
      · exact ⟨.bool !r, fun w => by simp only [Sem.run_bind, hg, Result.andThen_ok, binOp_neq (h3 hi hs), h4, Sem.run_pure], by simp [VR]⟩
theorem isSigned_eq (k : IntKind) : isSigned k = k.signed := by cases k <;> rfl
theorem pmax_eq (k : IntKind) : ((pmax k : Nat) : Int) = k.max := by cases k <;> decide
theorem unV_sound {E : Env} {op : UnOp} {a v : AV} (h : unV op a = some v) {av : Value} (ha : VR E a av) : ∃ z, (∀ w, (Op.unary op av).run P w = .ok z w) ∧ VR E v z := by
  cases op with
  | neg =>
    simp only [unV, uiNeg, ob_some, dInt_some, wI] at h
    obtain ⟨p, rfl, h⟩ := h
    simp only [VR] at ha
    subst ha
    cases h
    exact ⟨_, fun w => rfl, by
      simp only [VR, wrapI_eq]; rfl⟩
  | not =>
    simp only [unV, uiNot, ob_some, dBool_some, bB] at h
    obtain ⟨p, rfl, h⟩ := h
    simp only [VR] at ha
    subst ha
    cases h
    exact ⟨_, fun w => rfl, by simp [VR, notB_eq]⟩
  | xor =>
    simp only [unV, uiXor, ob_some, dInt_some] at h
    obtain ⟨p, rfl, h⟩ := h
    simp only [VR] at ha
    subst ha
    rw [isSigned_eq] at h
    have hh : bitsN Nat.xor xorH p.1 (if p.1.signed then -1 else p.1.max) p.2 = some v := by
      cases hs : p.1.signed with
      | true => rw [hs, iteB_true] at h; simpa using h
      | false =>
        rw [hs, iteB_false] at h
        have := pmax_eq p.1
        simp only [Bool.false_eq_true, if_false]
        rw [← this]
        exact h
    obtain ⟨z, h1, h2⟩ := VR_of_pure ((intBits_run (P := P) (k := p.1) (x := if p.1.signed then -1 else p.1.max) (y := p.2) (v := v)).2.2 hh) E
    exact ⟨z, h1, h2⟩
  | _ => simp [unV, uiNo] at h
end
end Go.Ev
namespace Go.Ev
/-- A frame and a memory that the evaluator's stand for. -/
structure At (C : Cx) (E : Env) (S : AW) (w : World) (tm : T AV) (act : Act) : Prop where
  ty : TTok C.P C.tt
  sim : Sim E S w
  tmp : TR E act.tmps.size tm act.tmps
section
variable {C : Cx} {E : Env} {S : AW} {w : World} {tm : T AV} {act : Act}
theorem At.ev (h : At C E S w tm act) {x : Operand} {a : AV} (k : aev tm x = some a) : VR E a (act.eval x) := aev_sound h.sim.glob h.tmp k
theorem At.evs (h : At C E S w tm act) {xs : List Operand} {as : List AV} (k : lmapO (aev tm) xs = some as) : LR E as (xs.map act.eval) := by
  obtain ⟨h1, h2⟩ := lmapO_some k
  refine ⟨by simp [h1], fun i a v ha hv => ?_⟩
  rw [List.getElem?_map] at hv
  cases hx : xs[i]? with
  | none => simp [hx] at hv
  | some x =>
    simp only [hx, Option.map_some, Option.some.injEq] at hv
    rw [← hv]
    exact h.ev (h2 i x a hx ha)
theorem At.evO (h : At C E S w tm act) {x : Option Operand} {r : Option AV} (k : evO tm x = some r) : (r = none ∧ x.map act.eval = none) ∨ ∃ a v, r = some a ∧ x.map act.eval = some v ∧ VR E a v := by
  cases x with
  | none => simp [Ev.evO] at k; exact .inl ⟨k.symm, rfl⟩
  | some x =>
    simp only [Ev.evO, oel_some, ob_some] at k
    obtain ⟨a, ha, k⟩ := k
    cases k
    exact .inr ⟨a, _, rfl, rfl, h.ev ha⟩
/-- What an operation answers, memory as it is. -/
def Got (C : Cx) (E : Env) (w : World) (act : Act) (o : Oper) (v : AV) : Prop := ∃ x, (execOp act.eval o).run C.P w = .ok (.value x) w ∧ VR E v x
def VHok (f : VH) (op : Op) : Prop := ∀ {C : Cx} {E : Env} {S : AW} {w : World} {tm : T AV} {act : Act} {o : Oper} {v : AV}, o.op = op → At C E S w tm act → f C tm S = some v → Got C E w act o v
theorem run_v {P : Program} {s : Sem Value} {x : Value} {w : World} (h : s.run P w = .ok x w) : (do pure (.value (← s)) : Sem Next).run P w = .ok (.value x) w := by
  simp only [Sem.run_bind, h, Result.andThen_ok, Sem.run_pure]
theorem vMove_ok (x : Operand) : VHok (vMove x) (.move x) ∧ VHok (vMove x) (.assign x) := by
  constructor <;> (intro C E S w tm act o v ho hA h; exact ⟨_, by simp only [execOp, ho]; rfl, hA.ev h⟩)
theorem vPick_ok (c a b : Operand) : VHok (vPick c a b) (.pick c a b) := by
  intro C E S w tm act o v ho hA h
  simp only [vPick, ob_some, dBool_some] at h
  obtain ⟨u, hu, t, rfl, h⟩ := h
  have hc := hA.ev hu
  simp only [VR] at hc
  refine ⟨_, ?_, hA.ev (x := if t then a else b) (by cases t <;> simpa using h)⟩
  simp only [execOp, ho, hc, asBool, Sem.run_bind, Sem.run_pure, Result.andThen_ok]
  cases t <;> rfl
theorem vNil_ok (x : Operand) : VHok (vNil x) (.nilCheck x) := by
  intro C E S w tm act o v ho hA h
  simp only [vNil, ob_some, tst_some] at h
  obtain ⟨u, hu, hn, h⟩ := h
  cases h
  have hx := hA.ev hu
  refine ⟨_, ?_, hx⟩
  simp only [execOp, ho]
  simp only [notNil, orB_eq, Bool.or_eq_true] at hn
  have hr := @refKind_iff v
  rcases hn with hn | hn | hn
  · obtain ⟨i, o, rfl⟩ := hr.1.1 (eq_of_beq hn)
    simp only [VR] at hx
    obtain ⟨l, _, hx⟩ := hx
    rw [hx]; rfl
  · obtain ⟨i, a, b, rfl⟩ := hr.2.2.2.2.1.1 (eq_of_beq hn)
    simp only [VR] at hx
    obtain ⟨l, _, hx, _⟩ := hx
    rw [hx]; rfl
  · obtain ⟨i, o, rfl⟩ := hr.2.2.2.2.2.1 (eq_of_beq hn)
    simp only [VR] at hx
    obtain ⟨l, hx, _⟩ := hx
    rw [hx]; rfl
theorem vBin_ok (op : BinOp) (t u : TypeId) (x y : Operand) : VHok (vBin op t x y) (.binOp op t x y u) := by
  intro C E S w tm act o v ho hA h
  simp only [vBin, ob_some] at h
  obtain ⟨a, ha, b, hb, h⟩ := h
  obtain ⟨z, h1, h2⟩ := binV_sound hA.ty h (hA.ev ha) (hA.ev hb)
  exact ⟨z, by simp only [execOp, ho]; exact run_v (h1 w), h2⟩
theorem vUn_ok (op : UnOp) (t : TypeId) (x : Operand) : VHok (vUn op x) (.unOp op t x) := by
  intro C E S w tm act o v ho hA h
  simp only [vUn, ob_some] at h
  obtain ⟨a, ha, h⟩ := h
  obtain ⟨z, h1, h2⟩ := unV_sound (P := C.P) h (hA.ev ha)
  exact ⟨z, by simp only [execOp, ho]; exact run_v (h1 w), h2⟩
theorem vArr_ok (t : TypeId) (x : Operand) : VHok (vArr t x) (.sliceToArrayPointer t x) := by
  intro C E S w tm act o v ho hA h
  simp only [vArr, ob_some, tst_some, dSl_some, dArrT_some] at h
  obtain ⟨a, ha, s, rfl, d, hd, q, hq, hle, h⟩ := h
  cases h
  obtain ⟨l, k, hl, hx, _⟩ := sl_val (hA.ev ha)
  have hU := hA.ty.runU hd w
  rw [hq] at hU
  refine ⟨.pointer (some ⟨l.blk, l.off + s.off, none⟩), ?_, by simp only [VR]; exact ⟨l, hl, rfl⟩⟩
  have hle := ble_iff.1 hle
  simp only [execOp, ho, hx]
  refine run_v ?_
  unfold Instr.arrayAt
  simp only [Sem.run_bind, hU, Result.andThen_ok, Nat.not_lt.2 hle, if_false, Sem.run_pure]
theorem vIfc_ok (t : TypeId) (x : Operand) : VHok (vIfc t x) (.makeInterface t x) := by
  intro C E S w tm act o v ho hA h
  simp only [vIfc, ob_some, tst_some, notB_eq, Bool.not_eq_true'] at h
  obtain ⟨a, ha, d, hd, hi, h⟩ := h
  cases h
  refine ⟨.iface t (act.eval x), ?_, by simp only [VR]; exact ⟨_, rfl, hA.ev ha⟩⟩
  simp only [execOp, ho]
  refine run_v ?_
  unfold Instr.makeInterface
  simp only [Sem.run_bind, hA.ty.runU hd, Result.andThen_ok]
  cases hu : d.und <;> first | rfl | (rw [hu] at hi; simp [isIfcT] at hi)
theorem vFunc_ok (fn : Fn) (a b : Array Operand) : VHok (vFunc fn a b) (.makeFunc fn a b) := by
  intro C E S w tm act o v ho hA h
  simp only [vFunc, ob_some] at h
  obtain ⟨f, hf, p, hp, q, hq, h⟩ := h
  cases h
  have hf : fn = .func f := by cases fn <;> simp_all [fnFunc]
  subst hf
  refine ⟨.func (.func f) (a.map act.eval) (b.map act.eval), ?_, ?_⟩
  · simp only [execOp, ho]
    exact run_v rfl
  · simp only [VR]
    refine ⟨_, _, ?_, VRL_iff.2 (hA.evs hp), VRL_iff.2 (hA.evs hq)⟩
    simp only [Value.func.injEq, true_and]
    exact ⟨by apply Array.toList_inj.1; simp, by apply Array.toList_inj.1; simp⟩
theorem lget_eq' {α : Type} (l : List α) (i : Nat) : lget l i = l[i]? := lget_eq l i
theorem vField_ok (t : TypeId) (x : Operand) (k : Nat) : VHok (vField t x k) (.field t x k) := by
  intro C E S w tm act o v ho hA h
  simp only [vField, fieldV, ob_some, dAgg_some, dStructT_some, lget_eq] at h
  obtain ⟨a, ha, cs, rfl, d, hd, fs, hfs, f, hf, y, hy, h⟩ := h
  have hx := hA.ev ha
  simp only [VR] at hx
  obtain ⟨xs, hx, hc⟩ := hx
  obtain ⟨z, h1, h2, _⟩ := run_partV hA.ty hy h (VRR_iff.1 hc)
  have hU := hA.ty.runU hd w
  rw [hfs] at hU
  refine ⟨z, ?_, h2⟩
  simp only [execOp, ho, hx]
  refine run_v ?_
  unfold Instr.field
  simp only [Sem.run_bind, hU, Result.andThen_ok, List.getElem?_toArray, hf, asAgg, Sem.run_pure, h1]
theorem vFieldAddr_ok (t : TypeId) (x : Operand) (k : Nat) : VHok (vFieldAddr t x k) (.fieldAddr t x k) := by
  intro C E S w tm act o v ho hA h
  simp only [vFieldAddr, fieldAddrV, ob_some, tst_some, dPtr_some, dStructT_some, lget_eq, tsize_some, notB_eq, Bool.not_eq_true'] at h
  obtain ⟨a, ha, p, rfl, d, hd, fs, hfs, f, hf, s, ⟨y, hy, rfl⟩, hz, h⟩ := h
  cases h
  have hx := hA.ev ha
  simp only [VR] at hx
  obtain ⟨l, hl, hx⟩ := hx
  have hU := hA.ty.runU hd w
  rw [hfs] at hU
  have hz := ne_of_beq hz
  refine ⟨.pointer (some ⟨l.blk, l.off + (p.2 + f.offset), none⟩), ?_, by simp only [VR]; exact ⟨l, hl, rfl⟩⟩
  simp only [execOp, ho, hx]
  refine run_v ?_
  unfold Instr.fieldAt fieldPlace
  simp only [Sem.run_bind, hU, Result.andThen_ok, List.getElem?_toArray, hf, Instr.sureAddr, Sem.run_pure, hA.ty.runS hy, hz, if_false, addr_add, Nat.add_assoc]
theorem vExtract_ok (x : Operand) (i : Nat) : VHok (vExtract x i) (.extract x i) := by
  intro C E S w tm act o v ho hA h
  simp only [vExtract, ob_some, dTup_some, lget_eq] at h
  obtain ⟨a, ha, vs, rfl, h⟩ := h
  have hx := hA.ev ha
  simp only [VR] at hx
  obtain ⟨xs, hx, hl⟩ := hx
  obtain ⟨z, h1, h2⟩ := (VRL_iff.1 hl).get h
  refine ⟨z, ?_, h2⟩
  simp only [execOp, ho, hx]
  refine run_v ?_
  simp only [Instr.extract, List.getElem?_toArray, h1, Sem.run_pure]
theorem vLoad_ok (t : TypeId) (x : Operand) : VHok (vLoad t x) (.load t x) := by
  intro C E S w tm act o v ho hA h
  simp only [vLoad, ob_some] at h
  obtain ⟨a, ha, h⟩ := h
  obtain ⟨y, ad, hx, hr, hv⟩ := loadV_sound hA.ty hA.sim h (hA.ev ha)
  refine ⟨y, ?_, hv⟩
  simp only [execOp, ho, hx]
  refine run_v ?_
  simp only [Instr.loadAt, Instr.sureAddr, Sem.run_bind, Sem.run_pure, Result.andThen_ok, hr]
end
end Go.Ev
namespace Go.Ev
theorem dNat_VR {E : Env} {a : AV} {n : Nat} {v : Value} (h : dNat a = some n) (k : VR E a v) : ∃ j, v = .int j (.ofNat n) := by
  obtain ⟨j, rfl⟩ := dNat_some.1 h
  simp only [VR] at k
  exact ⟨j, k⟩
theorem elemAt_some {tt : T Ty} {e : TypeId} {n len i off : Nat} {v : AV} : elemAt tt e n len i off = some v ↔ ∃ d, tt.get e = some d ∧ n < len ∧ v = .ptr i (off + n * d.size) := by
  simp only [elemAt, ob_some, tst_some, tsize_some, blt_iff, Option.some.injEq]
  constructor
  · rintro ⟨s, ⟨d, h1, rfl⟩, h2, rfl⟩; exact ⟨d, h1, h2, rfl⟩
  · rintro ⟨d, h1, h2, rfl⟩; exact ⟨_, ⟨d, h1, rfl⟩, h2, rfl⟩
theorem vIndexAddr_ok (t : TypeId) (x ix : Operand) : VHok (vIndexAddr t x ix) (.indexAddr t x ix) := by
  intro C E S w tm act o v ho hA h
  simp only [vIndexAddr, indexAddrV, ob_some] at h
  obtain ⟨a, ha, b, hb, d, hd, n, hn, h⟩ := h
  obtain ⟨j, hj⟩ := dNat_VR hn (hA.ev hb)
  have hU := hA.ty.runU hd
  have hlt : ∀ m : Nat, n < m → (0 ≤ (n : Int) ∧ (n : Int) < (m : Int)) := fun m h => ⟨Int.natCast_nonneg n, by simpa using h⟩
  cases hs : dSl a with
  | some s =>
    simp only [hs, oel_some, ob_some, dSliceT_some, elemAt_some] at h
    obtain ⟨e, he, d2, hd2, hl, rfl⟩ := h
    rw [dSl_some] at hs
    subst hs
    obtain ⟨l, k, hloc, hx, _⟩ := sl_val (hA.ev ha)
    refine ⟨.pointer (some ⟨l.blk, l.off + (s.off + n * d2.size), none⟩), ?_, by simp only [VR]; exact ⟨l, hloc, rfl⟩⟩
    rw [he] at hU
    simp only [execOp, ho, hx, hj]
    refine run_v ?_
    unfold Instr.indexAt
    simp only [asIntOf, Sem.run_bind, Sem.run_pure, Result.andThen_ok, hU, hlt _ hl, and_self, if_true, hA.ty.runS hd2, addr_add, Int.ofNat_eq_natCast, Int.toNat_natCast, Nat.add_assoc]
  | none =>
    simp only [hs, oel_none, ob_some, dPtr_some, dArrT_some, elemAt_some] at h
    obtain ⟨p, rfl, q, hq, d2, hd2, hl, rfl⟩ := h
    have hx := hA.ev ha
    simp only [VR] at hx
    obtain ⟨l, hloc, hx⟩ := hx
    refine ⟨.pointer (some ⟨l.blk, l.off + (p.2 + n * d2.size), none⟩), ?_, by simp only [VR]; exact ⟨l, hloc, rfl⟩⟩
    rw [hq] at hU
    simp only [execOp, ho, hx, hj]
    refine run_v ?_
    unfold Instr.indexAt
    simp only [asIntOf, Sem.run_bind, Sem.run_pure, Result.andThen_ok, hU, Instr.sureAddr, hlt _ hl, and_self, if_true, hA.ty.runS hd2, addr_add, Int.ofNat_eq_natCast, Int.toNat_natCast, Nat.add_assoc]
theorem vIndex_ok (t : TypeId) (x ix : Operand) : VHok (vIndex t x ix) (.index t x ix) := by
  intro C E S w tm act o v ho hA h
  simp only [vIndex, indexV, ob_some] at h
  obtain ⟨a, ha, b, hb, d, hd, n, hn, h⟩ := h
  obtain ⟨j, hj⟩ := dNat_VR hn (hA.ev hb)
  have hU := hA.ty.runU hd
  cases hs : dAgg a with
  | some cs =>
    simp only [hs, oel_some, ob_some, tst_some, dArrT_some, blt_iff] at h
    obtain ⟨q, hq, y, hy, hl, h⟩ := h
    rw [dAgg_some] at hs
    subst hs
    have hx := hA.ev ha
    simp only [VR] at hx
    obtain ⟨xs, hx, hc⟩ := hx
    obtain ⟨z, h1, h2, _⟩ := run_partV hA.ty hy h (VRR_iff.1 hc)
    refine ⟨z, ?_, h2⟩
    rw [hq] at hU
    simp only [execOp, ho, hx, hj]
    refine run_v ?_
    unfold Instr.index
    have hlt : (0 ≤ (n : Int) ∧ (n : Int) < (q.1 : Int)) := ⟨Int.natCast_nonneg n, by simpa using hl⟩
    simp only [asIntOf, Sem.run_bind, Sem.run_pure, Result.andThen_ok, hU, hlt, and_self, if_true, hA.ty.runS hy, Int.ofNat_eq_natCast, Int.toNat_natCast]
    exact h1 w
  | none =>
    simp only [hs, oel_none, ob_some, tst_some, dStr_some, isStrT_iff, lget_eq, Option.some.injEq] at h
    obtain ⟨s, rfl, hst, c, hc, rfl⟩ := h
    have hx := hA.ev ha
    simp only [VR] at hx
    obtain ⟨hx, h256⟩ := hx
    refine ⟨.int .u8 (.ofNat c), ?_, by simp [VR]⟩
    rw [hst] at hU
    have hc256 := h256 c (List.mem_of_getElem? hc)
    simp only [execOp, ho, hx, hj]
    refine run_v ?_
    unfold Instr.index
    have hb : (ByteArray.mk (s.map UInt8.ofNat).toArray)[n]? = some (UInt8.ofNat c) := by
      have hn : n < s.length := (List.getElem?_eq_some_iff.1 hc).1
      have hsz : (ByteArray.mk (s.map UInt8.ofNat).toArray).size = s.length := by simp [ByteArray.size]
      rw [getElem?_pos _ n (by rw [hsz]; exact hn)]
      simp only [Option.some.injEq]
      show (s.map UInt8.ofNat).toArray[n]'(by simpa using hn) = _
      simp only [List.getElem_toArray, List.getElem_map]
      rw [List.getElem?_eq_some_iff] at hc
      obtain ⟨_, hc⟩ := hc
      rw [hc]
    simp only [asIntOf, bytesV, Sem.run_bind, Sem.run_pure, Result.andThen_ok, hU, Int.ofNat_eq_natCast, Int.natCast_nonneg, if_true, Int.toNat_natCast, hb]
    simp [Nat.mod_eq_of_lt hc256]
theorem vAssert_ok (x : Operand) (u t : TypeId) (ok : Bool) : VHok (vAssert x t ok) (.typeAssert x u t ok) := by
  intro C E S w tm act o v ho hA h
  simp only [vAssert, assertV, ob_some, tst_some, notB_eq, Bool.not_eq_true'] at h
  obtain ⟨a, ha, d, hd, hi, h⟩ := h
  have hU := hA.ty.runU hd
  have fails : ∀ v, (tst ok (ob d.zero fun z => some (AV.tup [z, .bool false]))) = some v → ok = true ∧ ∃ zv, (∀ w, (zeroValue t).run C.P w = .ok zv w) ∧ VR E v (.tuple #[zv, .bool false]) := by
    intro v h
    simp only [tst_some, ob_some, Option.some.injEq] at h
    obtain ⟨hok, z, hz, rfl⟩ := h
    obtain ⟨zv, h1, h2⟩ := hA.ty.runZ hd hz
    exact ⟨hok, zv, h1, by simp only [VR]; exact ⟨[zv, .bool false], rfl, by simp [VRL, VR, h2 E]⟩⟩
  cases hf : dIfc a with
  | some p =>
    rw [hf, oel_some, iteB_eq] at h
    rw [dIfc_some] at hf
    subst hf
    have hx := hA.ev ha
    simp only [VR] at hx
    obtain ⟨y, hx, hy⟩ := hx
    by_cases hpt : p.t = t
    · rw [if_pos (by rw [hpt]; exact beq_self t)] at h
      cases h
      refine ⟨if ok then .tuple #[y, .bool true] else y, ?_, ?_⟩
      · simp only [execOp, ho, hx]
        refine run_v ?_
        unfold Instr.typeAssert
        simp only [Sem.run_bind, hU, Result.andThen_ok]
        cases hu : d.und <;> first | (rw [hu] at hi; simp [isIfcT] at hi; done) | (simp only [hpt, if_true, Sem.run_pure])
      · cases ok
        · simpa [okPair] using hy
        · simp only [okPair, iteB_true, if_true, VR]
          exact ⟨[y, .bool true], rfl, by simp [VRL, VR, hy]⟩
    · rw [if_neg (by rw [beq_of_ne hpt]; simp)] at h
      obtain ⟨rfl, zv, h1, h2⟩ := fails v h
      refine ⟨_, ?_, h2⟩
      simp only [execOp, ho, hx]
      refine run_v ?_
      unfold Instr.typeAssert
      simp only [Sem.run_bind, hU, Result.andThen_ok]
      cases hu : d.und <;> first | (rw [hu] at hi; simp [isIfcT] at hi; done) | (simp only [hpt, if_true, if_false, Sem.run_bind, h1, Result.andThen_ok, Sem.run_pure])
  | none =>
    simp only [hf, oel_none] at h
    rw [tst_some, isNifc_iff] at h
    obtain ⟨rfl, h⟩ := h
    have hx := hA.ev ha
    simp only [VR] at hx
    obtain ⟨rfl, zv, h1, h2⟩ := fails v h
    refine ⟨_, ?_, h2⟩
    simp only [execOp, ho, hx]
    refine run_v ?_
    unfold Instr.typeAssert
    simp only [Sem.run_bind, hU, Result.andThen_ok]
    cases hu : d.und <;> first | (rw [hu] at hi; simp [isIfcT] at hi; done) | (simp only [if_true, Sem.run_bind, h1, Result.andThen_ok, Sem.run_pure])
end Go.Ev
namespace Go.Ev
theorem inR_sound {P : Program} {E : Env} {lo hi n : Nat} {a : AV} {v : Value} (h : inR lo hi a = some n) (k : VR E a v) : lo ≤ n ∧ n ≤ hi ∧ ∀ y code w, n ≤ y → (Instr.sliceBound v y code).run P w = .ok n w := by
  simp only [inR, ob_some, tst_some, ble_iff, Option.some.injEq] at h
  obtain ⟨m, hm, h1, h2, rfl⟩ := h
  obtain ⟨j, rfl⟩ := dNat_VR hm k
  refine ⟨h1, h2, fun y code w hy => ?_⟩
  unfold Instr.sliceBound
  have : (0 ≤ (m : Int) ∧ (m : Int) ≤ (y : Int)) := ⟨Int.natCast_nonneg m, by simpa using hy⟩
  simp only [asIntOf, Sem.run_bind, Sem.run_pure, Result.andThen_ok, Int.ofNat_eq_natCast, this, and_self, if_true, Int.toNat_natCast]
/-- The three bounds, as they are asked. -/
def OptOk (E : Env) (x : Option AV) (v : Option Value) : Prop := (x = none ∧ v = none) ∨ ∃ a u, x = some a ∧ v = some u ∧ VR E a u
theorem optN_sound {P : Program} {E : Env} {d lo hi n : Nat} {x : Option AV} {v : Option Value} (h : optN d lo hi x = some n) (k : OptOk E x v) :
    (v = none ∧ n = d) ∨ ∃ u, v = some u ∧ lo ≤ n ∧ n ≤ hi ∧ ∀ y code w, n ≤ y → (Instr.sliceBound u y code).run P w = .ok n w := by
  rcases k with ⟨rfl, rfl⟩ | ⟨a, u, rfl, rfl, k⟩
  · simp [optN] at h; exact .inl ⟨rfl, h.symm⟩
  · simp only [optN, oel_some] at h
    exact .inr ⟨u, rfl, inR_sound h k⟩
/-- slicing within bounds that are known -/
theorem run_bounds {P : Program} {E : Env} {len c m h l : Nat} {lo hi mx : Option AV} {vl vh vm : Option Value} (isS : Bool) (hm : optN c 0 c mx = some m) (hh : optN len 0 m hi = some h) (hl : optN 0 0 h lo = some l)
    (kl : OptOk E lo vl) (kh : OptOk E hi vh) (km : OptOk E mx vm) (hx : vm.isSome = true → vh.isSome = true) (w : World) :
    (Instr.sliceBounds isS len c vl vh vm).run P w = .ok (l, h, m) w := by
  unfold Instr.sliceBounds
  rcases optN_sound (P := P) hm km with ⟨rfl, rfl⟩ | ⟨um, rfl, _, hm2, hm3⟩
  · rcases optN_sound (P := P) hh kh with ⟨rfl, rfl⟩ | ⟨uh, rfl, _, hh2, hh3⟩
    · rcases optN_sound (P := P) hl kl with ⟨rfl, rfl⟩ | ⟨ul, rfl, _, hl2, hl3⟩
      · simp
      · simp [hl3 _ _ _ hl2]
    · rcases optN_sound (P := P) hl kl with ⟨rfl, rfl⟩ | ⟨ul, rfl, _, hl2, hl3⟩
      · simp [hh3 _ _ _ hh2]
      · simp [hl3 _ _ _ hl2, hh3 _ _ _ hh2]
  · rcases optN_sound (P := P) hh kh with ⟨rfl, rfl⟩ | ⟨uh, rfl, _, hh2, hh3⟩
    · simp at hx
    · rcases optN_sound (P := P) hl kl with ⟨rfl, rfl⟩ | ⟨ul, rfl, _, hl2, hl3⟩
      · simp [hm3 _ _ _ hm2, hh3 _ _ _ hh2]
      · simp [hm3 _ _ _ hm2, hl3 _ _ _ hl2, hh3 _ _ _ hh2]
/-- .. and where the room is more than what is known of it -/
theorem run_bounds_rest {P : Program} {E : Env} {len c h l : Nat} {lo hi : Option AV} {vl vh : Option Value} (isS : Bool) (hc : len ≤ c) (hh : optN len 0 len hi = some h) (hl : optN 0 0 h lo = some l)
    (kl : OptOk E lo vl) (kh : OptOk E hi vh) (w : World) :
    (Instr.sliceBounds isS len c vl vh none).run P w = .ok (l, h, c) w := by
  unfold Instr.sliceBounds
  rcases optN_sound (P := P) hh kh with ⟨rfl, rfl⟩ | ⟨uh, rfl, _, hh2, hh3⟩
  · rcases optN_sound (P := P) hl kl with ⟨rfl, rfl⟩ | ⟨ul, rfl, _, hl2, hl3⟩
    · simp
    · simp [hl3 _ _ _ hl2]
  · rcases optN_sound (P := P) hl kl with ⟨rfl, rfl⟩ | ⟨ul, rfl, _, hl2, hl3⟩
    · simp [hh3 _ _ _ (Nat.le_trans hh2 hc)]
    · simp [hl3 _ _ _ hl2, hh3 _ _ _ (Nat.le_trans hh2 hc)]
theorem optN_le {d lo hi n : Nat} {x : Option AV} (h : optN d lo hi x = some n) (hd : d ≤ hi) : n ≤ hi := by
  cases x with
  | none => simp [optN] at h; omega
  | some a =>
    simp only [optN, oel_some, inR, ob_some, tst_some, ble_iff, Option.some.injEq] at h
    obtain ⟨m, _, _, h2, rfl⟩ := h
    exact h2
theorem cutSl_sound {E : Env} {size i off l h m : Nat} {lc : Loc} (hl : E.loc i = some lc) (h1 : l ≤ h) (h2 : h ≤ m) :
    VR E (cutSl size i off l h m) (.slice (some (if m = l then ⟨lc.blk, lc.off + off, none⟩ else Addr.add ⟨lc.blk, lc.off + off, none⟩ (l * size))) (h - l) (m - l)) := by
  unfold cutSl
  rw [iteB_eq]
  by_cases e : m = l
  · rw [if_pos (by rw [e]; exact beq_self l), if_pos e]
    simp only [VR]
    exact ⟨lc, hl, Nat.sub_le_sub_right h2 l, rfl⟩
  · rw [if_neg (by rw [beq_of_ne e]; simp), if_neg e, addr_add]
    simp only [VR]
    exact ⟨lc, hl, Nat.sub_le_sub_right h2 l, by simp [Nat.add_assoc]⟩
theorem OptOk.some_of {E : Env} {x : Option AV} {v : Option Value} (k : OptOk E x v) : v.isSome = x.isSome := by
  rcases k with ⟨rfl, rfl⟩ | ⟨a, u, rfl, rfl, _⟩ <;> rfl
theorem sliceEx_sound {P : Program} {E : Env} {size i off len c : Nat} {lo hi mx : Option AV} {vl vh vm : Option Value} {v : AV} {lc : Loc} (h : sliceEx size i off len c lo hi mx = some v) (hl : E.loc i = some lc) (hlen : len ≤ c)
    (kl : OptOk E lo vl) (kh : OptOk E hi vh) (km : OptOk E mx vm) (hx : mx.isSome = true → hi.isSome = true) :
    ∃ l h m, (∀ b w, (Instr.sliceBounds b len c vl vh vm).run P w = .ok (l, h, m) w) ∧ l ≤ h ∧ h ≤ m ∧ VR E v (.slice (some (if m = l then ⟨lc.blk, lc.off + off, none⟩ else Addr.add ⟨lc.blk, lc.off + off, none⟩ (l * size))) (h - l) (m - l)) := by
  simp only [sliceEx, ob_some, Option.some.injEq] at h
  obtain ⟨m, hm, hh, hhh, l, hll, rfl⟩ := h
  have b1 := optN_le hll (Nat.zero_le _)
  have b2 : hh ≤ m := by
    cases hi with
    | none =>
      cases mx with
      | none => simp [optN] at hm hhh; omega
      | some a => simp at hx
    | some a =>
      simp only [optN, oel_some, inR, ob_some, tst_some, ble_iff, Option.some.injEq] at hhh
      obtain ⟨_, _, _, h2, rfl⟩ := hhh
      exact h2
  exact ⟨l, hh, m, fun b w => run_bounds b hm hhh hll kl kh km (by rw [km.some_of, kh.some_of]; exact hx) w, b1, b2, cutSl_sound hl b1 b2⟩
theorem sliceSl_sound {P : Program} {E : Env} {size i off len : Nat} {c : Cap} {lo hi mx : Option AV} {vl vh vm : Option Value} {v : AV} {x : Value} (h : sliceCap c size i off len lo hi mx = some v) (k : VR E (.sl i off len c) x)
    (kl : OptOk E lo vl) (kh : OptOk E hi vh) (km : OptOk E mx vm) (hx : mx.isSome = true → hi.isSome = true) :
    ∃ a n cc l h m, x = .slice (some a) n cc ∧ (∀ b w, (Instr.sliceBounds b n cc vl vh vm).run P w = .ok (l, h, m) w) ∧ VR E v (.slice (some (if m = l then a else a.add (l * size))) (h - l) (m - l)) := by
  cases c with
  | ex c =>
    simp only [VR] at k
    obtain ⟨lc, hl, hle, rfl⟩ := k
    obtain ⟨l, h, m, h1, _, _, h2⟩ := sliceEx_sound (P := P) h hl hle kl kh km hx
    exact ⟨_, _, _, l, h, m, rfl, h1, h2⟩
  | rest k0 =>
    simp only [VR] at k
    obtain ⟨lc, hl, hle, rfl⟩ := k
    have h : sliceRest size i off len k0 lo hi mx = some v := h
    unfold sliceRest at h
    cases hm : mx with
    | some a =>
      subst hm
      simp only [oel_some, ob_some] at h
      obtain ⟨m, hm, hh, hhh, l, hll, h⟩ := h
      cases h
      obtain ⟨_, hml, hm3⟩ : 0 ≤ m ∧ m ≤ len ∧ True := by
        simp only [inR, ob_some, tst_some, ble_iff, Option.some.injEq] at hm
        obtain ⟨_, _, h1, h2, rfl⟩ := hm
        exact ⟨h1, h2, trivial⟩
      have b1 := optN_le hll (Nat.zero_le _)
      have b2 : hh ≤ m := by
        cases hi with
        | none => simp at hx
        | some a =>
          simp only [optN, oel_some, inR, ob_some, tst_some, ble_iff, Option.some.injEq] at hhh
          obtain ⟨_, _, _, h2, rfl⟩ := hhh
          exact h2
      have hm' : optN (lc.cap - k0) 0 (lc.cap - k0) (some a) = some m := by
        simp only [optN, oel_some]
        simp only [inR, ob_some, tst_some, ble_iff, Option.some.injEq] at hm ⊢
        obtain ⟨q, h0, h1, h2, rfl⟩ := hm
        exact ⟨q, h0, h1, by omega, rfl⟩
      exact ⟨_, _, _, l, hh, m, rfl, fun b w => run_bounds b hm' hhh hll kl kh km (by rw [km.some_of, kh.some_of]; exact hx) w, cutSl_sound hl b1 b2⟩
    | none =>
      subst hm
      simp only [oel_none, ob_some] at h
      obtain ⟨hh, hhh, l, hll, h⟩ := h
      have b1 := optN_le hll (Nat.zero_le _)
      have b2 := optN_le hhh (Nat.le_refl _)
      have hvm : vm = none := by
        rcases km with ⟨_, h⟩ | ⟨_, _, h, _⟩
        · exact h
        · cases h
      subst hvm
      refine ⟨_, _, _, l, hh, lc.cap - k0, rfl, fun b w => run_bounds_rest b (by omega) hhh hll kl kh w, ?_⟩
      rw [iteB_eq] at h
      by_cases hlt : l < len
      · rw [if_pos (blt_iff.2 hlt)] at h
        cases h
        rw [if_neg (by omega), addr_add]
        show VR E (.sl i (off + l * size) (hh - l) (.rest (k0 + l))) _
        simp only [VR]
        exact ⟨lc, hl, by omega, by simp [Nat.add_assoc, Nat.sub_sub]⟩
      · rw [if_neg (by rw [blt_iff]; exact hlt), tst_some] at h
        obtain ⟨h0, h⟩ := h
        cases h
        have h0 := eq_of_beq h0
        subst h0
        have : hh = 0 := by omega
        subst this
        rw [Nat.zero_mul, addr_add, Nat.add_zero]
        simp only [VR]
        exact ⟨lc, hl, by omega, by simp⟩
theorem At.optOk {C : Cx} {E : Env} {S : AW} {w : World} {tm : T AV} {act : Act} (h : At C E S w tm act) {x : Option Operand} {r : Option AV} (k : Ev.evO tm x = some r) : OptOk E r (x.map act.eval) := h.evO k
theorem bytes_extract {s : List Nat} {l h : Nat} : (ByteArray.mk (s.map UInt8.ofNat).toArray).extract l h = ByteArray.mk (((s.drop l).take (h - l)).map UInt8.ofNat).toArray := by
  apply ByteArray.ext
  rw [ByteArray.data_extract]
  apply Array.toList_inj.1
  simp [List.extract_eq_take_drop, List.map_take, List.map_drop]
theorem vSlice_ok (t : TypeId) (x : Operand) (lo hi mx : Option Operand) : VHok (vSlice t x lo hi mx) (.slice t x lo hi mx) := by
  intro C E S w tm act o v ho hA h
  simp only [vSlice, sliceV, ob_some, tst_some, orB_eq, notB_eq, isSomeB_eq] at h
  obtain ⟨a, ha, l, hl, hh, hhi, m, hm, d, hd, hx, h⟩ := h
  have kl := hA.optOk hl
  have kh := hA.optOk hhi
  have km := hA.optOk hm
  have hx : m.isSome = true → hh.isSome = true := by
    intro h; simpa [h] using hx
  have hU := hA.ty.runU hd
  cases hs : dSl a with
  | some s =>
    simp only [hs, oel_some, ob_some, dSliceT_some, tsize_some] at h
    obtain ⟨e, he, z, ⟨d2, hd2, rfl⟩, h⟩ := h
    rw [dSl_some] at hs
    subst hs
    obtain ⟨ad, n, cc, l, hi', m, hv, h1, h2⟩ := sliceSl_sound (P := C.P) h (hA.ev ha) kl kh km hx
    refine ⟨_, ?_, h2⟩
    rw [he] at hU
    simp only [execOp, ho, hv]
    refine run_v ?_
    unfold Instr.sliceAt
    simp only [Sem.run_bind, hU, Result.andThen_ok]
    unfold Instr.slice
    simp only [Sem.run_bind, hU, Result.andThen_ok, h1, hA.ty.runS hd2, Sem.run_pure, Option.map_some]
    split <;> rfl
  | none =>
    simp only [hs, oel_none] at h
    cases hp : dPtr a with
    | some p =>
      simp only [hp, oel_some, ob_some, dArrT_some, tsize_some] at h
      obtain ⟨q, hq, z, ⟨d2, hd2, rfl⟩, h⟩ := h
      rw [dPtr_some] at hp
      subst hp
      have hv := hA.ev ha
      simp only [VR] at hv
      obtain ⟨lc, hlc, hv⟩ := hv
      obtain ⟨l, hi', m, h1, _, _, h2⟩ := sliceEx_sound (P := C.P) h hlc (Nat.le_refl _) kl kh km hx
      refine ⟨_, ?_, h2⟩
      rw [hq] at hU
      simp only [execOp, ho, hv]
      refine run_v ?_
      unfold Instr.sliceAt
      simp only [Sem.run_bind, hU, Result.andThen_ok, Instr.sureAddr, Sem.run_pure, h1, hA.ty.runS hd2]
    | none =>
      simp only [hp, oel_none] at h
      cases hstr : dStr a with
      | some s =>
        simp only [hstr, oel_some, tst_some, isStrT_iff] at h
        obtain ⟨hst, h⟩ := h
        unfold sliceStr at h
        cases m with
        | some m => simp at h
        | none =>
          simp only [oel_none, ob_some, Option.some.injEq] at h
          obtain ⟨hq, hhq, lq, hlq, rfl⟩ := h
          rw [dStr_some] at hstr
          subst hstr
          have hv := hA.ev ha
          simp only [VR] at hv
          obtain ⟨hv, h256⟩ := hv
          have hvm : mx.map act.eval = none := by
            rcases km with ⟨_, h⟩ | ⟨_, _, h, _⟩
            · exact h
            · cases h
          have hsz : (ByteArray.mk (s.map UInt8.ofNat).toArray).size = llen s := by simp [ByteArray.size, llen_eq]
          have b1 := optN_le hlq (Nat.zero_le _)
          have b2 := optN_le hhq (Nat.le_refl _)
          refine ⟨bytesV (ltake (ldrop s lq) (Nat.sub hq lq)), ?_, ?_⟩
          · rw [hst] at hU
            simp only [execOp, ho, hv]
            refine run_v ?_
            unfold Instr.sliceAt
            simp only [bytesV, Sem.run_bind, hU, Result.andThen_ok]
            unfold Instr.slice
            simp only [Sem.run_bind, hU, Result.andThen_ok, hvm, Option.isSome_none, Bool.false_eq_true, if_false, hsz, run_bounds_rest (P := C.P) false (Nat.le_refl _) hhq hlq kl kh, Sem.run_pure, bytes_extract, ltake_eq, ldrop_eq]
            rfl
          · simp only [VR]
            refine ⟨trivial, fun x hx => ?_⟩
            rw [ltake_eq, ldrop_eq] at hx
            exact h256 x (List.mem_of_mem_drop (List.mem_of_mem_take hx))
      | none =>
        simp only [hstr, oel_none, tst_some, isNsl_iff, ob_some, dSliceT_some, tsize_some, sliceNil, Option.some.injEq] at h
        obtain ⟨rfl, e, he, z, ⟨d2, hd2, rfl⟩, mq, hmq, hq, hhq, lq, hlq, rfl⟩ := h
        have hv := hA.ev ha
        simp only [VR] at hv
        have b0 := optN_le hmq (Nat.zero_le _)
        have hm0 : mq = 0 := by omega
        subst hm0
        have b1 := optN_le hhq (Nat.zero_le _)
        have hh0 : hq = 0 := by omega
        subst hh0
        have b2 := optN_le hlq (Nat.zero_le _)
        have hl0 : lq = 0 := by omega
        subst hl0
        refine ⟨.slice none 0 0, ?_, by simp [VR]⟩
        rw [he] at hU
        simp only [execOp, ho, hv]
        refine run_v ?_
        unfold Instr.sliceAt
        simp only [Sem.run_bind, hU, Result.andThen_ok]
        unfold Instr.slice
        simp only [Sem.run_bind, hU, Result.andThen_ok, run_bounds (P := C.P) true hmq hhq hlq kl kh km (by rw [km.some_of, kh.some_of]; exact hx), hA.ty.runS hd2, Sem.run_pure, if_true, Nat.sub_self]
end Go.Ev
namespace Go.Ev
theorem run_getObj' {P : Program} {w : World} {r : Nat} {o : Obj} (h : w.heap[r]? = some o) (hn : ∀ c e f, o ≠ .cells c e f) : (getObj r).run P w = .ok o w := by
  unfold getObj
  cases o <;> first | (exact absurd rfl (hn _ _ _)) | simp [Sem.run, h]
theorem mapOf_sound {E : Env} {S : AW} {w : World} (hS : Sim E S w) {x : AV} {q : Mq} {v : Value} (h : mapOf S x = some q) (k : VR E x v) :
    x = .map q.i ∧ S.heap.get q.i = some (.map q.es q.clock) ∧ ∃ (l : Loc) (ms : List MapEntry), E.loc q.i = some l ∧ v = .map (some l.blk) ∧ w.heap[l.blk]? = some (.map ms.toArray q.clock) ∧ ER E q.es ms := by
  simp only [mapOf, ob_some, dMap_some, Option.some.injEq] at h
  obtain ⟨i, rfl, o, ho, m, hm, rfl⟩ := h
  have : o = .map m.es m.clock := by cases o <;> simp [dMp] at hm; subst hm; rfl
  subst this
  simp only [VR] at k
  obtain ⟨l, hl, rfl⟩ := k
  obtain ⟨l', hl', ms, h1, h2⟩ := hS.obj _ _ ho
  rw [hl] at hl'
  cases hl'
  exact ⟨rfl, ho, l, ms, hl, rfl, h1, h2⟩
section
variable {P : Program} {tt : T Ty}
theorem keyEq_sound {E : Env} {d : TypeDesc} {k x : AV} {b : Bool} {kv xv : Value} (hk : keyKind d k = true) (h : keyEq k x = some b) (h1 : VR E k kv) (h2 : VR E x xv) : Instr.sameNow d kv xv = some b := by
  simp only [keyKind, orB_eq, andB_eq, Bool.or_eq_true, Bool.and_eq_true, isSomeB_eq, Option.isSome_iff_exists, isStrT_iff] at hk
  unfold keyEq at h
  rcases hk with ⟨⟨j, hj⟩, p, hp⟩ | ⟨rfl, s, hs⟩
  · rw [dIntT_some] at hj
    subst hj
    rw [hp] at h
    simp only [oel_some, ob_some, tst_some, Option.some.injEq, ieq_eq] at h
    obtain ⟨q, hq, hkk, rfl⟩ := h
    rw [dInt_some] at hp hq
    subst hp; subst hq
    simp only [VR] at h1 h2
    subst h1; subst h2
    simp [Instr.sameNow, ikeq_iff.1 hkk]
  · rw [dStr_some] at hs
    subst hs
    have e : dInt (.str s) = none := rfl
    simp only [e, oel_none, ob_some, dStr_some, Option.some.injEq, AV.str.injEq] at h
    obtain ⟨a, rfl, u, rfl, rfl⟩ := h
    simp only [VR] at h1 h2
    obtain ⟨rfl, h1⟩ := h1
    obtain ⟨rfl, h2⟩ := h2
    have e : ((ByteArray.mk (s.map UInt8.ofNat).toArray) == (ByteArray.mk (u.map UInt8.ofNat).toArray)) = lbeq s u := by
      show ((s.map UInt8.ofNat).toArray == (u.map UInt8.ofNat).toArray) = _
      rw [lbeq_eq, Bool.eq_iff_iff]
      simp only [beq_iff_eq, decide_eq_true_eq]
      constructor
      · intro h
        exact map_ofNat_inj h1 h2 (by simpa using congrArg Array.toList h)
      · rintro rfl; rfl
    simp only [bytesV, Instr.sameNow, e]
theorem findE_nil (k : AV) (i : Nat) : findE k [] i = some none := rfl
theorem findE_cons (k : AV) (e : Ent) (es : List Ent) (i : Nat) : findE k (e :: es) i = ob (keyEq k e.key) fun b => iteB b (some (some (i, e.val))) (findE k es (Nat.succ i)) := rfl
/-- What was found. -/
def FR (E : Env) (es : List Ent) (ms : List MapEntry) (i0 : Nat) : Option (Nat × AV) → Option (Nat × Value) → Prop
  | none, r => r = none
  | some (i, a), r => ∃ v, r = some (i, v) ∧ VR E a v ∧ i0 ≤ i ∧ ∃ e m, es[i - i0]? = some e ∧ ms[i - i0]? = some m ∧ e.val = a ∧ m.val = v
theorem findE_sound {E : Env} {d : TypeDesc} {k : AV} {kv : Value} (h1 : VR E k kv) : ∀ {es : List Ent} {ms : List MapEntry} {i : Nat} {r : Option (Nat × AV)}, (es ≠ [] → keyKind d k = true) → findE k es i = some r → ER E es ms →
    ∃ r', Instr.findNow d kv ms i = some r' ∧ FR E es ms i r r'
  | [], ms, i, r, _, h, he => by
    rw [findE_nil] at h
    cases h
    have : ms = [] := List.eq_nil_of_length_eq_zero he.1.symm
    subst this
    exact ⟨none, rfl, rfl⟩
  | e :: es, ms, i, r, hk, h, he => by
    rw [findE_cons, ob_some] at h
    obtain ⟨b, hb, h⟩ := h
    cases ms with
    | nil => simp [ER] at he
    | cons m ms =>
      obtain ⟨p1, p2, _⟩ := he.2 0 e m rfl rfl
      have hs := keyEq_sound (hk (by simp)) hb h1 p1
      cases b with
      | true =>
        cases h
        refine ⟨some (i, m.val), by simp only [Instr.findNow, hs], m.val, rfl, p2, Nat.le_refl _, e, m, by simp, by simp, rfl, rfl⟩
      | false =>
        obtain ⟨r', hr, hf⟩ := findE_sound h1 (i := Nat.succ i) (fun _ => hk (by simp)) h (ms := ms) ⟨by simpa using he.1, fun j x y hx hy => he.2 (j + 1) x y (by simpa using hx) (by simpa using hy)⟩
        refine ⟨r', by simp only [Instr.findNow, hs]; exact hr, ?_⟩
        cases r with
        | none => exact hf
        | some p =>
          obtain ⟨v, e1, e2, e3, x, y, e4, e5, e6, e7⟩ := hf
          refine ⟨v, e1, e2, by omega, x, y, ?_, ?_, e6, e7⟩
          · have : p.1 - i = (p.1 - Nat.succ i) + 1 := by omega
            rw [this]; simpa using e4
          · have : p.1 - i = (p.1 - Nat.succ i) + 1 := by omega
            rw [this]; simpa using e5
theorem basic_check {d : TypeDesc} (h : basicD d = true) {t : TypeId} (hu : P.underlying t = some d) (em : Bool) (n : Nat) (v : Value) (w : World) : (Instr.checkKey em (n + 1) t v).run P w = .ok () w := by
  unfold Instr.checkKey
  simp only [Sem.run_bind, run_underlying hu, Result.andThen_ok]
  cases d <;> simp_all [basicD, dIntT, isStrT, isBoolT, orB, isSomeB, oel]
theorem checkKey_ok (hT : TTok P tt) {E : Env} {kt : TypeId} {em : Bool} {k : AV} {kv : Value} (h : keyOk tt kt em k = true) (hk : VR E k kv) (em' : Bool) (n : Nat) (w : World) : (Instr.checkKey em' (n + 2) kt kv).run P w = .ok () w := by
  unfold keyOk at h
  cases hd : tt.get kt with
  | none => simp [hd] at h
  | some d =>
    rw [hd, oel_some] at h
    cases ha : dAgg k with
    | none =>
      rw [ha, oel_none] at h
      have hb : basicD d.und = true := by
        simp only [keyKind, basicD, orB_eq, andB_eq, Bool.or_eq_true, Bool.and_eq_true] at h ⊢
        rcases h with h | h
        · exact .inl h.1
        · exact .inr (.inl h.1)
      exact basic_check hb (hT.und hd) em' (n + 1) kv w
    | some cs =>
      rw [ha, oel_some] at h
      cases hs : dStructT d.und with
      | none => simp [hs] at h
      | some fs =>
        rw [hs, oel_some, andB_eq, Bool.and_eq_true, lall_eq, List.all_eq_true] at h
        rw [dAgg_some] at ha
        rw [dStructT_some] at hs
        subst ha
        simp only [VR] at hk
        obtain ⟨xs, rfl, hc⟩ := hk
        have hc := VRR_iff.1 hc
        have hU := hT.runU hd
        rw [hs] at hU
        unfold Instr.checkKey
        simp only [Sem.run_bind, hU, Result.andThen_ok]
        rw [← Array.forIn_toList]
        simp only
        have key : ∀ l : List Field, (∀ f ∈ l, f ∈ fs) → (forIn l PUnit.unit fun (f : Field) (_ : PUnit) => do
            if f.name ≠ "_" then do
              let y ← part f.type xs.toArray f.offset
              Instr.checkKey em' (n + 1) f.type y
              pure (ForInStep.yield PUnit.unit)
            else pure (ForInStep.yield PUnit.unit) : Sem PUnit).run P w = .ok PUnit.unit w := by
          intro l
          induction l with
          | nil => intro _; simp
          | cons f l ih =>
            intro hl
            have hf := h.2 f (hl f (by simp))
            cases hg : tt.get f.type with
            | none => simp [hg] at hf
            | some g =>
              simp only [hg, oel_some, andB_eq, notB_eq, Bool.and_eq_true, Bool.not_eq_true', isSomeB_eq, Option.isSome_iff_exists] at hf
              obtain ⟨hna, hb, a, hr⟩ := hf
              obtain ⟨y, hy, _, _⟩ := run_partV hT hg (partV_flat hna hr) hc
              have hck := basic_check hb (hT.und hg) em' n y w
              rw [List.forIn_cons]
              by_cases hn : f.name = "_"
              · simp only [hn, ne_eq, not_true_eq_false, if_false, Sem.run_bind, Sem.run_pure, Result.andThen_ok]
                exact ih (fun g hg => hl g (by simp [hg]))
              · simp only [hn, ne_eq, not_false_eq_true, if_true, Sem.run_bind, hy, hck, Sem.run_pure, Result.andThen_ok]
                exact ih (fun g hg => hl g (by simp [hg]))
        rw [key fs (fun f h => h)]
        rfl
theorem findKey_ok (hT : TTok P tt) {E : Env} {kt : TypeId} {k : AV} {kv : Value} {es : List Ent} {ms : List MapEntry} {r : Option (Nat × AV)} {em : Bool} (hke : keyOk tt kt em k = true) (hem : em = true → es = []) (hk : VR E k kv) (h : findE k es 0 = some r) (he : ER E es ms) :
    ∃ r', (∀ w, (Instr.findKey kt kv ms).run P w = .ok r' w) ∧ FR E es ms 0 r r' := by
  unfold keyOk at hke
  cases hd : tt.get kt with
  | none => simp [hd] at hke
  | some d =>
    rw [hd, oel_some] at hke
    have hkk : es ≠ [] → keyKind d.und k = true := by
      intro hne
      cases ha : dAgg k with
      | none => rw [ha, oel_none] at hke; exact hke
      | some cs =>
        rw [ha, oel_some] at hke
        cases hs : dStructT d.und with
        | none => simp [hs] at hke
        | some fs =>
          rw [hs, oel_some, andB_eq, Bool.and_eq_true] at hke
          exact absurd (hem hke.1) hne
    obtain ⟨r', h1, h2⟩ := findE_sound hk hkk h he
    exact ⟨r', fun w => Go.MapKept.run_findKey (hT.und hd) h1, h2⟩
end
theorem okPair_VR {E : Env} {ok b : Bool} {a : AV} {v : Value} (h : VR E a v) : VR E (okPair ok a b) (if ok then .tuple #[v, .bool b] else v) := by
  cases ok
  · simpa [okPair] using h
  · simp only [okPair, iteB_true, if_true, VR]
    exact ⟨[v, .bool b], rfl, by simp [VRL, VR, h]⟩
theorem lookupIn_sound {P : Program} {tt : T Ty} (hT : TTok P tt) {E : Env} {kt et : TypeId} {k v : AV} {kv : Value} {es : List Ent} {ms : List MapEntry} {ok : Bool} (h : lookupIn tt kt et es k ok = some v) (hk : VR E k kv) (he : ER E es ms) :
    (∀ w, (Instr.checkKey ms.isEmpty 10000 kt kv).run P w = .ok () w) ∧ ∃ r', (∀ w, (Instr.findKey kt kv ms).run P w = .ok r' w) ∧
      ((r' = none ∧ ∃ z, (∀ w, (zeroValue et).run P w = .ok z w) ∧ VR E v (if ok then .tuple #[z, .bool false] else z)) ∨ ∃ i x, r' = some (i, x) ∧ VR E v (if ok then .tuple #[x, .bool true] else x)) := by
  simp only [lookupIn, tst_some, ob_some] at h
  obtain ⟨hke, r, hr, h⟩ := h
  obtain ⟨r', h1, h2⟩ := findKey_ok hT hke (fun h => isEmpty_iff.1 h) hk hr he
  refine ⟨fun w => checkKey_ok hT hke hk _ 9998 w, r', h1, ?_⟩
  cases r with
  | none =>
    left
    simp only [oel_none, ob_some, Option.some.injEq] at h
    obtain ⟨d, hd, z, hz, rfl⟩ := h
    obtain ⟨zv, h3, h4⟩ := hT.runZ hd hz
    exact ⟨h2, zv, h3, okPair_VR (h4 E)⟩
  | some p =>
    right
    simp only [oel_some, Option.some.injEq] at h
    subst h
    obtain ⟨x, e1, e2, _⟩ := h2
    exact ⟨p.1, x, e1, okPair_VR e2⟩
theorem vLookup_ok (t : TypeId) (x k : Operand) (ok : Bool) : VHok (vLookup t x k ok) (.lookup t x k ok) := by
  intro C E S w tm act o v ho hA h
  simp only [vLookup, lookupV, ob_some, dMapT_some] at h
  obtain ⟨a, ha, b, hb, d, hd, m, hm, h⟩ := h
  have hU := hA.ty.runU hd
  rw [hm] at hU
  have hx := hA.ev ha
  have main : ∃ ms : List MapEntry, ((act.eval x = .map none ∧ ms = []) ∨ ∃ r c, act.eval x = .map (some r) ∧ w.heap[r]? = some (.map ms.toArray c)) ∧ ∃ es, lookupIn C.tt m.1 m.2 es b ok = some v ∧ ER E es ms := by
    cases hn : isNmap a with
    | true =>
      rw [hn, iteB_true] at h
      rw [isNmap_iff] at hn
      subst hn
      simp only [VR] at hx
      exact ⟨[], .inl ⟨hx, rfl⟩, [], h, rfl, fun i e m h => by simp at h⟩
    | false =>
      rw [hn, iteB_false, ob_some] at h
      obtain ⟨q, hq, h⟩ := h
      obtain ⟨_, _, l, ms, hl, hv, hh, he⟩ := mapOf_sound hA.sim hq hx
      exact ⟨ms, .inr ⟨_, _, hv, hh⟩, q.es, h, he⟩
  obtain ⟨ms, hms, es, hlk, he⟩ := main
  obtain ⟨c1, r', c2, c3⟩ := lookupIn_sound hA.ty hlk (hA.ev hb) he
  have hemp : ms.toArray.isEmpty = ms.isEmpty := by cases ms <;> simp
  have c1' : ∀ w, (Instr.checkKey (#[] : Array MapEntry).isEmpty 10000 m.1 (act.eval k)).run C.P w = .ok () w := fun w => checkKey_ok hA.ty (by
    simp only [lookupIn, tst_some] at hlk; exact hlk.1) (hA.ev hb) _ 9998 w
  rcases c3 with ⟨rfl, z, hz, hv⟩ | ⟨i, y, rfl, hv⟩
  · refine ⟨_, ?_, hv⟩
    simp only [execOp, ho]
    refine run_v ?_
    unfold Instr.lookup
    rcases hms with ⟨hx', rfl⟩ | ⟨r, c, hx', hh⟩
    · simp only [Sem.run_bind, hU, Result.andThen_ok, hx', c1', c2, hz, Sem.run_pure]
    · simp only [Sem.run_bind, hU, Result.andThen_ok, hx', run_getObj' hh (by simp), hemp, c1, c2, hz, Sem.run_pure]
  · refine ⟨_, ?_, hv⟩
    simp only [execOp, ho]
    refine run_v ?_
    unfold Instr.lookup
    rcases hms with ⟨hx', rfl⟩ | ⟨r, c, hx', hh⟩
    · simp only [Sem.run_bind, hU, Result.andThen_ok, hx', c1', c2, Sem.run_pure]
    · simp only [Sem.run_bind, hU, Result.andThen_ok, hx', run_getObj' hh (by simp), hemp, c1, c2, Sem.run_pure]
end Go.Ev
namespace Go.Ev
theorem exec_builtin {ρ : Operand → Value} {o : Oper} {c : Call} {b : Builtin} (ho : o.op = .call c) (hc : c.callee = .builtin b) :
    execOp ρ o = Go.builtin b c.argTypes o.type (c.args.map fun | .const _ => true | _ => false) (c.args.map ρ) := by
  simp only [execOp, ho, resolve, hc]
  rfl
theorem At.arg {C : Cx} {E : Env} {S : AW} {w : World} {tm : T AV} {act : Act} (h : At C E S w tm act) {c : Call} {i : Nat} {x : Operand} {a : AV} (h1 : lget c.args.toList i = some x) (h2 : aev tm x = some a) :
    (c.args.map act.eval)[i]? = some (act.eval x) ∧ VR E a (act.eval x) := by
  rw [lget_eq, Array.getElem?_toList] at h1
  exact ⟨by simp [h1], h.ev h2⟩
theorem vLen_ok (c : Call) (hc : c.callee = .builtin .len) : VHok (vLen c) (.call c) := by
  intro C E S w tm act o v ho hA h
  simp only [vLen, ob_some, lget_eq (l := c.argTypes.toList), Array.getElem?_toList, Option.some.injEq] at h
  obtain ⟨t, ht, x, hx, a, ha, n, hn, rfl⟩ := h
  obtain ⟨hx, hv⟩ := hA.arg hx ha
  refine ⟨.int .i64 (.ofNat n), ?_, by simp [VR]⟩
  rw [exec_builtin ho hc]
  refine run_v ?_
  unfold Builtin.len_
  simp only [lenV, ob_some] at hn
  obtain ⟨d, hd, hn⟩ := hn
  have hU := hA.ty.runU hd
  simp only [ht, hx]
  cases hs : dSl a with
  | some s =>
    simp only [hs, oel_some, ob_some, dSliceT_some, Option.some.injEq] at hn
    obtain ⟨e, he, rfl⟩ := hn
    rw [dSl_some] at hs
    subst hs
    obtain ⟨l, k, _, hv, _⟩ := sl_val hv
    rw [he] at hU
    simp only [Sem.run_bind, hU, Result.andThen_ok, hv, Sem.run_pure, goInt]
    rfl
  | none =>
    simp only [hs, oel_none] at hn
    cases hst : dStr a with
    | some s =>
      simp only [hst, oel_some, tst_some, isStrT_iff, Option.some.injEq] at hn
      obtain ⟨he, rfl⟩ := hn
      rw [dStr_some] at hst
      subst hst
      simp only [VR] at hv
      rw [he] at hU
      simp only [Sem.run_bind, hU, Result.andThen_ok, hv.1, bytesV, Sem.run_pure, goInt, llen_eq]
      simp [ByteArray.size]
    | none =>
      simp only [hst, oel_none] at hn
      cases hm : dMap a with
      | some i =>
        simp only [hm, oel_some, ob_some, Option.some.injEq] at hn
        obtain ⟨p, hp, q, hq, rfl⟩ := hn
        rw [dMapT_some] at hp
        obtain ⟨_, _, l, ms, _, hv, hh, he⟩ := mapOf_sound hA.sim hq hv
        rw [hp] at hU
        simp only [Sem.run_bind, hU, Result.andThen_ok, hv, run_getObj' hh (by simp), Sem.run_pure, goInt, llen_eq, he.1]
        simp
      | none =>
        simp only [hm, oel_none, iteB_eq] at hn
        by_cases h1 : isNsl a = true
        · rw [if_pos h1, ob_some] at hn
          obtain ⟨e, he, hn⟩ := hn
          cases hn
          rw [dSliceT_some] at he
          rw [isNsl_iff] at h1
          subst h1
          simp only [VR] at hv
          rw [he] at hU
          simp only [Sem.run_bind, hU, Result.andThen_ok, hv, Sem.run_pure, goInt]
          rfl
        · rw [if_neg h1] at hn
          by_cases h2 : isNmap a = true
          · rw [if_pos h2, ob_some] at hn
            obtain ⟨e, he, hn⟩ := hn
            cases hn
            rw [dMapT_some] at he
            rw [isNmap_iff] at h2
            subst h2
            simp only [VR] at hv
            rw [he] at hU
            simp only [Sem.run_bind, hU, Result.andThen_ok, hv, Sem.run_pure, goInt]
            rfl
          · rw [if_neg h2, ob_some] at hn
            obtain ⟨e, he, hn⟩ := hn
            cases hn
            rw [dArrT_some] at he
            rw [he] at hU
            simp only [Sem.run_bind, hU, Result.andThen_ok, Sem.run_pure, goInt]
            rfl
theorem exOf_some {c : Cap} {n : Nat} : exOf c = some n ↔ c = .ex n := by cases c <;> simp [exOf]
theorem vCap_ok (c : Call) (hc : c.callee = .builtin .cap) : VHok (vCap c) (.call c) := by
  intro C E S w tm act o v ho hA h
  simp only [vCap, ob_some, lget_eq (l := c.argTypes.toList), Array.getElem?_toList, Option.some.injEq] at h
  obtain ⟨t, ht, x, hx, a, ha, n, hn, rfl⟩ := h
  obtain ⟨hx, hv⟩ := hA.arg hx ha
  refine ⟨.int .i64 (.ofNat n), ?_, by simp [VR]⟩
  rw [exec_builtin ho hc]
  refine run_v ?_
  unfold Builtin.cap_
  simp only [capV, ob_some] at hn
  obtain ⟨d, hd, hn⟩ := hn
  have hU := hA.ty.runU hd
  simp only [ht, hx]
  cases hs : dSl a with
  | some s =>
    simp only [hs, oel_some, ob_some, dSliceT_some, exOf_some] at hn
    obtain ⟨e, he, hn⟩ := hn
    rw [dSl_some, hn] at hs
    subst hs
    simp only [VR] at hv
    obtain ⟨l, _, _, hv⟩ := hv
    rw [he] at hU
    simp only [Sem.run_bind, hU, Result.andThen_ok, hv, Sem.run_pure, goInt]
    rfl
  | none =>
    simp only [hs, oel_none, tst_some, isNsl_iff, ob_some, dSliceT_some, Option.some.injEq] at hn
    obtain ⟨rfl, e, he, rfl⟩ := hn
    simp only [VR] at hv
    rw [he] at hU
    simp only [Sem.run_bind, hU, Result.andThen_ok, hv, Sem.run_pure, goInt]
    rfl
theorem minI_sound {P : Program} {E : Env} {a b v : AV} {x y : Value} (h : minI a b = some v) (ha : VR E a x) (hb : VR E b y) : ∃ z, (∀ w, (Builtin.min2 x y).run P w = .ok z w) ∧ VR E v z := by
  simp only [minI, ob_some, dInt_some, Option.some.injEq] at h
  obtain ⟨p, rfl, q, rfl, rfl⟩ := h
  simp only [VR] at ha hb
  subst ha; subst hb
  refine ⟨_, fun w => rfl, ?_⟩
  simp only [VR, iteB_eq, ilt_eq, decide_eq_true_eq]
theorem maxI_sound {P : Program} {E : Env} {a b v : AV} {x y : Value} (h : maxI a b = some v) (ha : VR E a x) (hb : VR E b y) : ∃ z, (∀ w, (Builtin.max2 x y).run P w = .ok z w) ∧ VR E v z := by
  simp only [maxI, ob_some, dInt_some, Option.some.injEq] at h
  obtain ⟨p, rfl, q, rfl, rfl⟩ := h
  simp only [VR] at ha hb
  subst ha; subst hb
  refine ⟨_, fun w => rfl, ?_⟩
  simp only [VR, iteB_eq, ilt_eq, decide_eq_true_eq]
theorem fold_sound {P : Program} {E : Env} {f : AV → AV → Option AV} {g : Value → Value → Sem Value} (hf : ∀ a b v x y, f a b = some v → VR E a x → VR E b y → ∃ z, (∀ w, (g x y).run P w = .ok z w) ∧ VR E v z) :
    ∀ {l : List AV} {ls : List Value} {a v : AV} {x : Value}, lfoldO f l a = some v → LR E l ls → VR E a x → ∃ z, (∀ w, (ls.foldlM g x).run P w = .ok z w) ∧ VR E v z
  | [], ls, a, v, x, h, hl, ha => by
    rw [lfoldO_nil] at h
    cases h
    have : ls = [] := List.eq_nil_of_length_eq_zero hl.1.symm
    subst this
    exact ⟨x, fun w => rfl, ha⟩
  | b :: l, ls, a, v, x, h, hl, ha => by
    rw [lfoldO_cons] at h
    cases ls with
    | nil => simp [LR] at hl
    | cons y ls =>
      cases hc : f a b with
      | none => simp [hc] at h
      | some c =>
        simp only [hc] at h
        obtain ⟨z, h1, h2⟩ := hf a b c x y hc ha (hl.2 0 b y rfl rfl)
        obtain ⟨z', h3, h4⟩ := fold_sound hf (l := l) (ls := ls) h ⟨by simpa using hl.1, fun i p q hp hq => hl.2 (i + 1) p q (by simpa using hp) (by simpa using hq)⟩ h2
        exact ⟨z', fun w => by rw [List.foldlM_cons, Sem.run_bind, h1, Result.andThen_ok, h3], h4⟩
theorem fold1_cons (f : AV → AV → Option AV) (a : AV) (l : List AV) : fold1 f (a :: l) = lfoldO f l a := rfl
theorem vMin_ok (c : Call) (hc : c.callee = .builtin .min) : VHok (vMin c) (.call c) := by
  intro C E S w tm act o v ho hA h
  simp only [vMin, ob_some] at h
  obtain ⟨l, hl, h⟩ := h
  have hl := hA.evs hl
  cases l with
  | nil => simp [fold1] at h
  | cons a l =>
    rw [fold1_cons] at h
    cases hv : c.args.toList.map act.eval with
    | nil => rw [hv] at hl; simp [LR] at hl
    | cons x xs =>
      rw [hv] at hl
      obtain ⟨z, h1, h2⟩ := fold_sound (P := C.P) (fun _ _ _ _ _ => minI_sound) h (ls := xs) ⟨by simpa using hl.1, fun i p q hp hq => hl.2 (i + 1) p q (by simpa using hp) (by simpa using hq)⟩ (hl.2 0 a x rfl rfl)
      refine ⟨z, ?_, h2⟩
      rw [exec_builtin ho hc]
      refine run_v ?_
      unfold Builtin.min_
      have e : (c.args.map act.eval).toList = x :: xs := by rw [← hv]; simp
      rw [e]
      exact h1 w
theorem vMax_ok (c : Call) (hc : c.callee = .builtin .max) : VHok (vMax c) (.call c) := by
  intro C E S w tm act o v ho hA h
  simp only [vMax, ob_some] at h
  obtain ⟨l, hl, h⟩ := h
  have hl := hA.evs hl
  cases l with
  | nil => simp [fold1] at h
  | cons a l =>
    rw [fold1_cons] at h
    cases hv : c.args.toList.map act.eval with
    | nil => rw [hv] at hl; simp [LR] at hl
    | cons x xs =>
      rw [hv] at hl
      obtain ⟨z, h1, h2⟩ := fold_sound (P := C.P) (fun _ _ _ _ _ => maxI_sound) h (ls := xs) ⟨by simpa using hl.1, fun i p q hp hq => hl.2 (i + 1) p q (by simpa using hp) (by simpa using hq)⟩ (hl.2 0 a x rfl rfl)
      refine ⟨z, ?_, h2⟩
      rw [exec_builtin ho hc]
      refine run_v ?_
      unfold Builtin.max_
      have e : (c.args.map act.eval).toList = x :: xs := by rw [← hv]; simp
      rw [e]
      exact h1 w
theorem vSliceData_ok (c : Call) (hc : c.callee = .builtin .unsafeSliceData) : VHok (vSliceData c) (.call c) := by
  intro C E S w tm act o v ho hA h
  simp only [vSliceData, tst_some, ob_some, llen_eq] at h
  obtain ⟨hlen, x, hx, a, ha, h⟩ := h
  have hlen := eq_of_beq hlen
  obtain ⟨hx, hv⟩ := hA.arg hx ha
  have hargs : c.args.map act.eval = #[act.eval x] := by
    have hs : (c.args.map act.eval).size = 1 := by simpa using hlen
    obtain ⟨y, hy⟩ := Array.size_eq_one_iff.1 hs
    rw [hy] at hx ⊢
    simp at hx
    rw [hx]
  cases hs : dSl a with
  | some s =>
    simp only [hs, oel_some, tst_some, notB_eq, Bool.not_eq_true', Option.some.injEq] at h
    obtain ⟨hn, rfl⟩ := h
    rw [dSl_some] at hs
    subst hs
    obtain ⟨l, k, hl, hv, hle⟩ := sl_val hv
    have hn := ne_of_beq hn
    refine ⟨.pointer (some ⟨l.blk, l.off + s.off, none⟩), ?_, by simp only [VR]; exact ⟨l, hl, rfl⟩⟩
    rw [exec_builtin ho hc]
    refine run_v ?_
    rw [hargs, hv]
    have : k ≠ 0 := by omega
    show Sem.run C.P (if k ≠ 0 then pure (Value.pointer (some _)) else _) w = _
    rw [if_pos this]
    rfl
  | none =>
    simp only [hs, oel_none, tst_some, isNsl_iff, Option.some.injEq] at h
    obtain ⟨rfl, rfl⟩ := h
    simp only [VR] at hv
    refine ⟨.pointer none, ?_, by simp [VR]⟩
    rw [exec_builtin ho hc]
    refine run_v ?_
    rw [hargs, hv]
    rfl
theorem vEntry_ok (x : Operand) : VHok (vEntry x) (.entry x) := by
  intro C E S w tm act o v ho hA h
  simp only [vEntry, entryV, ob_some, tst_some, dPtr_some, lget_eq, Option.some.injEq] at h
  obtain ⟨a, ha, p, rfl, h0, ob, hob, q, hq, m, hm, b, hb, om, hom, mp, hmp, hcl, e, he, rfl⟩ := h
  have h0 := eq_of_beq h0
  have hcl := eq_of_beq hcl
  have hob' : ob = .miter q.m q.since q.seen q.stepped := by cases ob <;> simp [dMi] at hq; subst hq; rfl
  have hom' : om = .map mp.es mp.clock := by cases om <;> simp [dMp] at hmp; subst hmp; rfl
  subst hob'; subst hom'
  have hv := hA.ev ha
  simp only [VR] at hv
  obtain ⟨l, hl, hv⟩ := hv
  obtain ⟨l', hl', hoff, m', h1, h2⟩ := hA.sim.obj _ _ hob
  rw [hl] at hl'; cases hl'
  obtain ⟨lm, hlm, ms, h3, h4⟩ := hA.sim.obj _ _ hom
  rw [hm] at h2
  obtain ⟨k, hk, rfl⟩ := h2
  rw [hlm] at hk; cases hk
  have hf : ∃ me : MapEntry, ms.find? (fun e => e.born == b) = some me ∧ VR E e.key me.key ∧ VR E e.val me.val := by
    clear h3 hmp
    revert ms
    generalize mp.es = es at he
    induction es with
    | nil => simp [lfind_nil] at he
    | cons x es ih =>
      intro ms h4
      cases ms with
      | nil => simp [ER] at h4
      | cons y ms =>
        obtain ⟨k1, k2, k3⟩ := h4.2 0 x y rfl rfl
        rw [lfind_cons] at he
        rw [List.find?_cons]
        cases hb : Nat.beq x.born b with
        | true =>
          rw [hb] at he
          cases he
          have : (y.born == b) = true := by rw [k3, eq_of_beq hb]; simp
          exact ⟨y, by simp [this], k1, k2⟩
        | false =>
          rw [hb] at he
          have : (y.born == b) = false := by rw [k3]; have := ne_of_beq hb; simpa using this
          rw [this]
          exact ih he ms ⟨by simpa using h4.1, fun i p q hp hq => h4.2 (i + 1) p q (by simpa using hp) (by simpa using hq)⟩
  obtain ⟨me, hfm, k1, k2⟩ := hf
  refine ⟨.tuple #[me.key, me.val], ?_, by simp only [VR]; exact ⟨[me.key, me.val], rfl, by simp only [VRL]; exact ⟨_, _, rfl, k1, _, _, rfl, k2, rfl⟩⟩⟩
  simp only [execOp, ho, hv, hoff, h0, Nat.add_zero]
  refine run_v ?_
  unfold Instr.entry
  have hback : q.seen.reverse.toArray.back? = some b := by
    cases hq : q.seen with
    | nil => simp [hq] at hb
    | cons c cs => simp [hq] at hb; subst hb; simp
  simp only [Sem.run_bind, run_getObj' h1 (by simp), run_getObj' h3 (by simp), Result.andThen_ok, hback, hcl, bne_self_eq_false, Bool.false_eq_true, if_false, Sem.run_pure, List.find?_toArray, hfm]
end Go.Ev
namespace Go.Ev
theorem set_fold : ∀ (vs : List Value) (k off : Nat) (l : List Value), off + k + vs.length ≤ l.length →
    (vs.zipIdx k).foldl (fun cs (p : Value × Nat) => cs.setIfInBounds (off + p.2) p.1) l.toArray = (l.take (off + k) ++ vs ++ l.drop (off + k + vs.length)).toArray
  | [], k, off, l, h => by simp
  | v :: vs, k, off, l, h => by
    simp only [List.length_cons] at h
    have hlt : off + k < l.length := by omega
    rw [List.zipIdx_cons, List.foldl_cons]
    have e : l.toArray.setIfInBounds (off + k) v = (l.set (off + k) v).toArray := by simp
    simp only [e]
    rw [set_fold vs (k + 1) off (l.set (off + k) v) (by simp; omega)]
    congr 1
    have e1 : (l.set (off + k) v).take (off + (k + 1)) = l.take (off + k) ++ [v] := by
      rw [← Nat.add_assoc, List.take_add_one]
      simp [List.take_set_of_le, hlt]
    have e2 : (l.set (off + k) v).drop (off + (k + 1) + vs.length) = l.drop (off + k + (vs.length + 1)) := by
      rw [List.drop_set_of_lt (by omega)]
      congr 1; omega
    rw [e1, e2]
    simp
theorem fill_step {E : Env} {place : Nat → Option (Nat × Nat)} {cells r : RL} {i : Nat} {a : AV} {v : Value} {l : List Value} (h : fill1 place cells (i, a) = some r) (hv : VR E a v) (hc : CR E (rflat cells) l) :
    ∃ off size l', place i = some (off, size) ∧ ¬ (v.cells.size ≠ size ∨ off + v.cells.size > l.toArray.size) ∧ v.cells.zipIdx.foldl (fun cs (p : Value × Nat) => cs.setIfInBounds (off + p.2) p.1) l.toArray = l'.toArray ∧ CR E (rflat r) l' := by
  simp only [fill1, ob_some, tst_some] at h
  obtain ⟨q, hq, cs, hcs, hs, h⟩ := h
  have hs := eq_of_beq hs
  rw [rlen_eq] at hs
  obtain ⟨vs, h1, h2⟩ := cellsOfV_sound hv hcs
  obtain ⟨h3, h4⟩ := rput_some h
  have hl := h2.1
  have hll := hc.1
  refine ⟨q.1, q.2, l.take q.1 ++ vs ++ l.drop (q.1 + vs.length), hq, ?_, ?_, ?_⟩
  · rw [h1]; simp only [List.size_toArray]; omega
  · rw [h1]
    have := set_fold vs 0 q.1 l (by omega)
    simpa using this
  · rw [h3, hl]
    exact ((hc.take q.1).append h2).append (hc.drop _)
/-- Parts: the same places, values alike. -/
def PR (E : Env) (ps : List (Nat × AV)) (vs : List (Nat × Value)) : Prop := ps.length = vs.length ∧ ∀ (i : Nat) (p : Nat × AV) (q : Nat × Value), ps[i]? = some p → vs[i]? = some q → p.1 = q.1 ∧ VR E p.2 q.2
theorem fillV_sound {E : Env} {place place' : Nat → Option (Nat × Nat)} (hp : ∀ i q, place i = some q → place' i = some q) : ∀ {ps : List (Nat × AV)} {vs : List (Nat × Value)} {cells r : RL} {l : List Value}, fillV place cells ps = some r → PR E ps vs → CR E (rflat cells) l →
    ∃ l', Instr.fill place' l.toArray vs = some l'.toArray ∧ CR E (rflat r) l'
  | [], vs, cells, r, l, h, hq, hc => by
    unfold fillV at h
    rw [lfoldO_nil] at h
    cases h
    have : vs = [] := List.eq_nil_of_length_eq_zero hq.1.symm
    subst this
    exact ⟨l, rfl, hc⟩
  | (i, a) :: ps, vs, cells, r, l, h, hq, hc => by
    unfold fillV at h
    rw [lfoldO_cons] at h
    cases vs with
    | nil => simp [PR] at hq
    | cons q vs =>
      cases hf : fill1 place cells (i, a) with
      | none => simp [hf] at h
      | some r1 =>
        simp only [hf] at h
        obtain ⟨e1, e2⟩ := hq.2 0 (i, a) q rfl rfl
        obtain ⟨j, v⟩ := q
        simp only at e1 e2
        subst e1
        obtain ⟨off, size, l1, h1, h2, h3, h4⟩ := fill_step hf e2 hc
        obtain ⟨l2, h5, h6⟩ := fillV_sound (r := r) hp (ps := ps) (vs := vs) h ⟨by simpa using hq.1, fun i p q hp hq' => hq.2 (i + 1) p q (by simpa using hp) (by simpa using hq')⟩ h4
        refine ⟨l2, ?_, h6⟩
        unfold Instr.fill
        simp only [hp i _ h1]
        rw [if_neg (by simpa using h2)]
        have : v.cells.zipIdx.foldl (fun cs (x : Value × Nat) => match x with | (c, j) => cs.setIfInBounds (off + j) c) l.toArray = l1.toArray := h3
        rw [this]
        exact h5
theorem At.parts {C : Cx} {E : Env} {S : AW} {w : World} {tm : T AV} {act : Act} (h : At C E S w tm act) {ps : Array (Nat × Operand)} {vs : List (Nat × AV)} (k : partsV tm ps.toList = some vs) :
    PR E vs (ps.map fun (i, x) => (i, act.eval x)).toList := by
  unfold partsV at k
  obtain ⟨h1, h2⟩ := lmapO_some k
  refine ⟨by simpa using h1.symm, fun i p q hp hq => ?_⟩
  rw [Array.toList_map, List.getElem?_map] at hq
  cases hx : ps.toList[i]? with
  | none => simp [hx] at hq
  | some x =>
    simp only [hx, Option.map_some, Option.some.injEq] at hq
    have := h2 i x p hx hp
    simp only [ob_some, Option.some.injEq] at this
    obtain ⟨a, ha, rfl⟩ := this
    subst hq
    exact ⟨rfl, h.ev ha⟩
theorem places_ok {P : Program} {tt : T Ty} (hT : TTok P tt) : ∀ {fs : List Field}, (∀ f ∈ fs, isSomeB (tt.get f.type) = true) →
    ∃ places, fs.mapM (fun f => (P.info? f.type).map fun i => (f.offset, i.size)) = some places ∧ ∀ i q, fieldPlaceOf tt fs i = some q → places[i]? = some q
  | [], _ => ⟨[], rfl, fun i q h => by simp [fieldPlaceOf, lget_eq] at h⟩
  | f :: fs, h => by
    obtain ⟨places, h1, h2⟩ := places_ok hT (fs := fs) (fun g hg => h g (by simp [hg]))
    have hf := h f (by simp)
    rw [isSomeB_eq, Option.isSome_iff_exists] at hf
    obtain ⟨d, hd⟩ := hf
    obtain ⟨inf, hi, _, hs, _⟩ := hT.ok _ _ hd
    refine ⟨(f.offset, inf.size) :: places, ?_, fun i q hq => ?_⟩
    · rw [List.mapM_cons, h1, hi]; rfl
    · cases i with
      | zero =>
        simp only [fieldPlaceOf, lget_eq, ob_some, List.getElem?_cons_zero, Option.some.injEq] at hq
        obtain ⟨g, rfl, d', hd', rfl⟩ := hq
        rw [hd] at hd'
        cases hd'
        simp [hs]
      | succ i =>
        simp only [fieldPlaceOf, lget_eq, List.getElem?_cons_succ] at hq
        simpa using h2 i q (by simpa [fieldPlaceOf, lget_eq] using hq)
theorem vBuild_ok (t : TypeId) (ps : Array (Nat × Operand)) : VHok (vBuild t ps) (.build t ps) := by
  intro C E S w tm act o v ho hA h
  simp only [vBuild, buildV, ob_some, dAgg_some] at h
  obtain ⟨vs, hvs, d, hd, z, hz, zr, rfl, h⟩ := h
  have hP := hA.parts hvs
  obtain ⟨inf, hi, hu, hsz, _, _, hzz⟩ := hA.ty.ok _ _ hd
  obtain ⟨zv, hzv, hzE⟩ := hzz _ hz
  have hzE := hzE E
  simp only [VR] at hzE
  obtain ⟨zl, rfl, hzl⟩ := hzE
  have hzl := VRR_iff.1 hzl
  have main : ∃ l : List Value, C.P.built t (ps.map fun (i, x) => (i, act.eval x)).toList = some l.toArray ∧ VR E v (.agg l.toArray) := by
    cases hst : dStructT d.und with
    | some fs =>
      simp only [hst, oel_some, tst_some, ob_some, Option.some.injEq, lall_eq, List.all_eq_true] at h
      obtain ⟨hall, r, hr, rfl⟩ := h
      rw [dStructT_some] at hst
      obtain ⟨places, hp1, hp2⟩ := places_ok hA.ty hall
      obtain ⟨l, hl1, hl2⟩ := fillV_sound (place' := fun i => places[i]?) hp2 hr hP hzl
      refine ⟨l, ?_, by simp only [VR]; exact ⟨l, rfl, VRR_iff.2 hl2⟩⟩
      unfold Program.built
      rw [hi, hu, hst]
      simp only [hzv, hp1]
      simpa [Value.cells] using hl1
    | none =>
      simp only [hst, oel_none, ob_some, Option.some.injEq, dArrT_some, tsize_some] at h
      obtain ⟨q, hq, s, ⟨d2, hd2, rfl⟩, r, hr, rfl⟩ := h
      obtain ⟨inf2, hi2, _, hs2, _⟩ := hA.ty.ok _ _ hd2
      obtain ⟨l, hl1, hl2⟩ := fillV_sound (place' := fun i => some (i * d2.size, d2.size)) (fun i q h => h) hr hP hzl
      refine ⟨l, ?_, by simp only [VR]; exact ⟨l, rfl, VRR_iff.2 hl2⟩⟩
      unfold Program.built
      rw [hi, hu, hq]
      simp only [hzv, hi2, hs2]
      simpa [Value.cells] using hl1
  obtain ⟨l, h1, h2⟩ := main
  refine ⟨_, ?_, h2⟩
  simp only [execOp, ho]
  exact run_v (run_build w t _ _ h1)
end Go.Ev
