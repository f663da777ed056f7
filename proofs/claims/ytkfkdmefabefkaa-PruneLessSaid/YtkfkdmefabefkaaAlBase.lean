/- The layer AL, part 1: abstract values, what they say of the memory, and how that is carried from one memory to a later one. No condition. -/
import Derived.CallsIn
import Derived.Below
import Derived.Laws.AppendOwn
import Derived.RangeFuncRecord
import Derived.OwnWalkIn
namespace Go.AL
open Go Go.RowKit

/-- Abstract values. Read-only memory is told as a tree; memory that the running function owns is told by its block. -/
inductive AV where
  | v (x : Value)
  | agg (cs : List AV)
  | tup (xs : List AV)
  | sl (k : Nat) (xs : List AV)
  | rp (k : Nat) (xs : List AV) (i j : Nat)
  | ls (b k off len cap : Nat)
  | lp (b k i j : Nat)
  | clo (f : FuncId) (cap : List AV)
  | cond (c : Bool) (x : AV)
  | rm (ks : List Value) (vs : List AV)
  | lm (b : Nat)
  | yl (l : Nat) (us : Array Value) (ks : List Nat) (cs : List AV)
  | any
  deriving Inhabited

def AV.cells : AV → List AV
  | .agg cs => cs
  | x => [x]

/-- One cell: neither a struct nor several results. -/
def one : AV → Bool
  | .v x => x.oneCell'
  | .agg _ => false
  | .tup _ => false
  | .any => false
  | .cond _ _ => false
  | _ => true
/-- A value that may be stored. -/
def okv : AV → Bool
  | .agg cs => cs.all one
  | x => one x
/-- An element of a row of elements of k cells each. -/
def elOk (k : Nat) (x : AV) : Prop := x.cells.length = k ∧ okv x = true

abbrev Foot := Nat → Prop

/-- What an abstract value says of a value in a world, its read-only memory lying in blocks of A. -/
inductive Rel (w : World) (A : Foot) : AV → Value → Prop
  | any (u : Value) : Rel w A .any u
  | v (x : Value) : Rel w A (.v x) x
  | agg (cs : List AV) (us : Array Value) (hn : us.size = cs.length) (h : ∀ (i : Nat) c u, cs[i]? = some c → us[i]? = some u → Rel w A c u) : Rel w A (.agg cs) (.agg us)
  | tup (cs : List AV) (us : Array Value) (hn : us.size = cs.length) (h : ∀ (i : Nat) c u, cs[i]? = some c → us[i]? = some u → Rel w A c u) : Rel w A (.tup cs) (.tuple us)
  | sl0 (k : Nat) (a : Option Addr) (cap : Nat) (hc : cap ≤ maxLen) : Rel w A (.sl k []) (.slice a 0 cap)
  | sl (k : Nat) (xs : List AV) (b off cap : Nat) (c : Nat → Value) (hA : A b) (hl : xs.length ≤ cap) (hc : cap ≤ maxLen) (hk : ∀ x ∈ xs, elOk k x)
      (hw : ∀ i, i < xs.length * k → w.cell? ⟨b, off + i, none⟩ = some (c i)) (h : ∀ (i : Nat) x (j : Nat) y, xs[i]? = some x → x.cells[j]? = some y → Rel w A y (c (i * k + j))) :
      Rel w A (.sl k xs) (.slice (some ⟨b, off, none⟩) xs.length cap)
  | rp (k : Nat) (xs : List AV) (i j b off : Nat) (c : Nat → Value) (hA : A b) (hk : ∀ x ∈ xs, elOk k x)
      (hw : ∀ i, i < xs.length * k → w.cell? ⟨b, off + i, none⟩ = some (c i)) (h : ∀ (i : Nat) x (j : Nat) y, xs[i]? = some x → x.cells[j]? = some y → Rel w A y (c (i * k + j))) :
      Rel w A (.rp k xs i j) (.pointer (some ⟨b, off + (i * k + j), none⟩))
  | ls (b k off len cap o : Nat) (hl : len ≤ cap) (hc : cap ≤ maxLen) (ho : o = off * k ∨ cap = 0) : Rel w A (.ls b k off len cap) (.slice (some ⟨b, o, none⟩) len cap)
  | lp (b k i j : Nat) : Rel w A (.lp b k i j) (.pointer (some ⟨b, i * k + j, none⟩))
  | clo (f : FuncId) (cs : List AV) (us : Array Value) (hn : us.size = cs.length) (h : ∀ (i : Nat) c u, cs[i]? = some c → us[i]? = some u → Rel w A c u) :
      Rel w A (.clo f cs) (.func (.func f) #[] us)
  | cond (c : Bool) (x : AV) (u : Value) (h : c = true → Rel w A x u) (h2 : c = false → u = undef) : Rel w A (.cond c x) u
  | rm (ks : List Value) (vs : List AV) (b : Nat) (es : Array MapEntry) (clock : Nat) (hA : A b) (hw : w.heap[b]? = some (.map es clock))
      (hk : es.toList.map (·.key) = ks) (hv : vs.length = ks.length) (h : ∀ (i : Nat) x e, vs[i]? = some x → es[i]? = some e → Rel w A x e.val) : Rel w A (.rm ks vs) (.map (some b))
  | lm (b : Nat) : Rel w A (.lm b) (.map (some b))
  | yl (l : Nat) (us : Array Value) (ks : List Nat) (cs : List AV) (h : ∀ (i : Nat) k c, ks[i]? = some k → cs[i]? = some c → Rel w A c (us.getD k undef)) : Rel w A (.yl l us ks cs) (.func (.yield l) #[] #[])

theorem Rel.later {w w' : World} {A A' : Foot} {a : AV} {u : Value} (h : Rel w A a u) (hw : ∀ b, A b → w'.heap[b]? = w.heap[b]?) (hA : ∀ b, A b → A' b) : Rel w' A' a u := by
  have cell : ∀ b o, A b → w'.cell? ⟨b, o, none⟩ = w.cell? ⟨b, o, none⟩ := fun b o hb => World.cell?_of_block (w := w) (hw b hb)
  induction h with
  | any u => exact .any u
  | v x => exact .v x
  | agg cs us hn _ ih => exact .agg cs us hn ih
  | tup cs us hn _ ih => exact .tup cs us hn ih
  | sl0 k a cap hc => exact .sl0 k a cap hc
  | sl k xs b off cap c hb hl hc hk hcw _ ih => exact .sl k xs b off cap c (hA b hb) hl hc hk (fun i hi => (cell _ _ hb).trans (hcw i hi)) ih
  | rp k xs i j b off c hb hk hcw _ ih => exact .rp k xs i j b off c (hA b hb) hk (fun i hi => (cell _ _ hb).trans (hcw i hi)) ih
  | ls b k off len cap o hl hc ho => exact .ls b k off len cap o hl hc ho
  | lp b k i j => exact .lp b k i j
  | clo f cs us hn _ ih => exact .clo f cs us hn ih
  | cond c x u _ h2 ih => exact .cond c x u ih h2
  | rm ks vs b es clock hb hm hk hv _ ih => exact .rm ks vs b es clock (hA b hb) ((hw b hb).trans hm) hk hv ih
  | lm b => exact .lm b
  | yl l us ks cs _ ih => exact .yl l us ks cs ih

/-- Several at once. -/
def Rels (w : World) (A : Foot) (as : List AV) (us : List Value) : Prop := us.length = as.length ∧ ∀ (i : Nat) a u, as[i]? = some a → us[i]? = some u → Rel w A a u

theorem Rels.later {w w' : World} {A A' : Foot} {a : List AV} {u : List Value} (h : Rels w A a u) (hw : ∀ b, A b → w'.heap[b]? = w.heap[b]?) (hA : ∀ b, A b → A' b) : Rels w' A' a u :=
  ⟨h.1, fun i x y hx hy => (h.2 i x y hx hy).later hw hA⟩
theorem Rels.nil {w : World} {A : Foot} : Rels w A [] [] := ⟨rfl, fun _ _ _ h => by simp at h⟩
theorem Rels.cons {w : World} {A : Foot} {a : AV} {u : Value} {as : List AV} {us : List Value} (h : Rel w A a u) (hs : Rels w A as us) : Rels w A (a :: as) (u :: us) :=
  ⟨by simp [hs.1], fun i x y hx hy => by
    cases i with
    | zero => simp at hx hy; subst hx; subst hy; exact h
    | succ i => exact hs.2 i x y (by simpa using hx) (by simpa using hy)⟩
theorem Rels.inv_cons {w : World} {A : Foot} {a : AV} {as : List AV} {us : List Value} (h : Rels w A (a :: as) us) : ∃ u us', us = u :: us' ∧ Rel w A a u ∧ Rels w A as us' := by
  cases us with
  | nil => have := h.1; simp at this
  | cons u us => exact ⟨u, us, rfl, h.2 0 a u rfl rfl, by have := h.1; simpa using this, fun i x y hx hy => h.2 (i + 1) x y (by simpa using hx) (by simpa using hy)⟩
theorem Rels.inv_nil {w : World} {A : Foot} {us : List Value} (h : Rels w A [] us) : us = [] := List.eq_nil_of_length_eq_zero (by simpa using h.1)
theorem Rels.append {w : World} {A : Foot} {as bs : List AV} {us vs : List Value} (h : Rels w A as us) (k : Rels w A bs vs) : Rels w A (as ++ bs) (us ++ vs) := by
  induction as generalizing us with
  | nil => obtain rfl := h.inv_nil; simpa using k
  | cons a as ih => obtain ⟨u, us', rfl, h1, h2⟩ := h.inv_cons; simpa using Rels.cons h1 (ih h2)

/-- Owned blocks. -/
inductive ABlk where
  | row (t : TypeId) (k : Nat) (xs : List AV) (cap : Nat)
  | amap (ks : List Value) (vs : List AV)
  | obj (o : Obj)
  deriving Inhabited

abbrev AHeap := List (Nat × ABlk)

def BlkRel (w : World) (A : Foot) (b : Nat) : ABlk → Prop
  | .row t k xs cap => ∃ c : Array Value, w.heap[b]? = some (.cells c t (0, 0)) ∧ c.size = cap * k ∧ xs.length ≤ cap ∧ cap ≤ maxLen ∧ (∀ x ∈ xs, elOk k x) ∧
      ∀ (i : Nat) x (j : Nat) y u, xs[i]? = some x → x.cells[j]? = some y → c[i * k + j]? = some u → Rel w A y u
  | .amap ks vs => ∃ es clock, w.heap[b]? = some (.map es clock) ∧ es.toList.map (·.key) = ks ∧ vs.length = ks.length ∧ (∀ e ∈ es.toList, e.born < clock) ∧ (es.toList.map (·.born)).Nodup ∧
      ∀ (i : Nat) x e, vs[i]? = some x → es[i]? = some e → Rel w A x e.val
  | .obj o => w.heap[b]? = some o

theorem BlkRel.later {w w' : World} {A A' : Foot} {b : Nat} {x : ABlk} (h : BlkRel w A b x) (hb : w'.heap[b]? = w.heap[b]?) (hw : ∀ b, A b → w'.heap[b]? = w.heap[b]?) (hA : ∀ b, A b → A' b) :
    BlkRel w' A' b x := by
  cases x with
  | row t k xs cap =>
    obtain ⟨c, h1, h2, h3, h4, h5, h6⟩ := h
    exact ⟨c, hb.trans h1, h2, h3, h4, h5, fun i x j y u hx hy hu => (h6 i x j y u hx hy hu).later hw hA⟩
  | amap ks vs =>
    obtain ⟨es, clock, h1, h2, h3, h4, h5, h6⟩ := h
    exact ⟨es, clock, hb.trans h1, h2, h3, h4, h5, fun i x e hx he => (h6 i x e hx he).later hw hA⟩
  | obj o => exact hb.trans h

theorem BlkRel.lt {w : World} {A : Foot} {b : Nat} {x : ABlk} (h : BlkRel w A b x) : b < w.heap.size := by
  cases x with
  | row t k xs cap => obtain ⟨c, h1, _⟩ := h; exact (Array.getElem?_eq_some_iff.1 h1).1
  | amap ks vs => obtain ⟨es, clock, h1, _⟩ := h; exact (Array.getElem?_eq_some_iff.1 h1).1
  | obj o => exact (Array.getElem?_eq_some_iff.1 h).1

/-- Of the blocks that were there only those of M may have turned. -/
structure Fr (w : World) (M : Foot) (w' : World) : Prop where
  os : w'.os = w.os
  tape : w'.tape = w.tape
  output : w'.output = w.output
  size : w.heap.size ≤ w'.heap.size
  block : ∀ k, k < w.heap.size → ¬ M k → w'.heap[k]? = w.heap[k]?

theorem Fr.refl (w : World) (M : Foot) : Fr w M w := ⟨rfl, rfl, rfl, Nat.le_refl _, fun _ _ _ => rfl⟩
/-- A later step that turns, of the older blocks, only those of M, or those that came since. -/
theorem Fr.trans {w w1 w2 : World} {M M' : Foot} (h : Fr w M w1) (k : Fr w1 M' w2) (hM : ∀ b, M' b → M b ∨ w.heap.size ≤ b) : Fr w M w2 :=
  ⟨k.os.trans h.os, k.tape.trans h.tape, k.output.trans h.output, Nat.le_trans h.size k.size, fun i hi hn =>
    (k.block i (Nat.lt_of_lt_of_le hi h.size) (fun hm => by rcases hM i hm with h' | h'; exact hn h'; omega)).trans (h.block i hi hn)⟩
theorem Fr.drew (w : World) (M : Foot) : Fr w M w.drew := ⟨rfl, rfl, rfl, Nat.le_refl _, fun _ _ _ => rfl⟩
theorem Fr.alloc (w : World) (M : Foot) (o : Obj) : Fr w M (w.alloc o) := ⟨rfl, rfl, rfl, by simp, fun k hk _ => Below.heap_alloc _ _ _ hk⟩
theorem Fr.setCell {w : World} {M : Foot} {a : Addr} (hM : M a.block) (v : Value) : Fr w M (w.setCell a v) :=
  ⟨rfl, rfl, rfl, by simp, fun k _ hn => Below.heap_setCell _ _ _ _ (fun e => hn (by rw [e]; exact hM))⟩
theorem Fr.putObj {w : World} {M : Foot} {r : Nat} (hM : M r) (o : Obj) : Fr w M (w.putObj r o) :=
  ⟨rfl, rfl, rfl, by simp, fun k _ hn => World.putObj_heap_other (fun e => hn (by rw [e]; exact hM))⟩
theorem Fr.grown {w w' : World} {M : Foot} {row : Option Nat} (hg : w.grownBy w' row) (hr : ∀ k, row = some k → M k) : Fr w M w' :=
  ⟨hg.os, hg.tape, hg.output, hg.size, fun k hk hn => hg.block k hk (fun e => hn (hr k e.symm))⟩

/-- The owned blocks, as told, apart from the read-only ones. -/
structure LRel (w : World) (A : Foot) (L : AHeap) : Prop where
  abnd : ∀ b, A b → b < w.heap.size
  disj : ∀ x ∈ L, ¬ A x.1
  nodup : (L.map (·.1)).Nodup
  blk : ∀ x ∈ L, BlkRel w A x.1 x.2

def keysOf (L : AHeap) : Foot := fun b => ∃ x ∈ L, x.1 = b

/-- Environments. -/
abbrev Env := List (Nat × AV)
def get : Env → Nat → AV
  | [], _ => .any
  | (j, x) :: r, i => if i = j then x else get r i
def put (ρ : Env) (d : Option Tmp) (x : AV) : Env :=
  match d with
  | some d => (d, x) :: ρ
  | none => ρ

/-- The state of a walk: w0: where the call began; M: the blocks that the caller has handed over to be written; A0: the caller's read-only blocks. -/
def St (w0 : World) (M A0 : Foot) (N : Nat) (ρ : Env) (L : AHeap) (a : Act) (w : World) : Prop :=
  ∃ (A : Foot) (ds : List Nat), Fr w0 M w ∧ (∀ b, A b → A0 b ∨ M b ∨ w0.heap.size ≤ b) ∧ LRel w A L ∧ (∀ x ∈ L, M x.1 ∨ w0.heap.size ≤ x.1) ∧
    a.tmps.size = N ∧ (∀ i, Rel w A (get ρ i) (a.tmps.getD i undef)) ∧
    a.defers = ds.map (fun D => { target := .collected D, args := #[] }) ∧
    (∀ D ∈ ds, w.heap[D]? = some (.deferred (some [])) ∧ ¬ A D ∧ ¬ keysOf L D ∧ (M D ∨ w0.heap.size ≤ D)) ∧ ds.Nodup

def Fw (r : Option Nat) : Fence := { Fence.wide with round := r }
theorem Fw_fn (r : Option Nat) (f : FuncId) : (Fw r).fn f := trivial
theorem Fw_depth (r : Option Nat) : (Fw r).depth = none := rfl
theorem Fw_room (r : Option Nat) (n : Nat) : (Fw r).room n := fun _ h => by simp [Fw, Fence.wide] at h

end Go.AL
