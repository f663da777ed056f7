/- The layer AL, part 2: operations that yield a value and turn nothing: what they give of abstract values, and that the model's run gives it. No condition. -/
import Derived.Test.YtkfkdmefabefkaaAlBase
import Derived.Deep.MidRow
import Derived.Maps.Own
import Derived.Laws.Slices
import Derived.IntWalk
namespace Go.AL
open Go Go.RowKit

/-! ### Types -/
inductive TK where
  | int (k : IntKind) | bool | str | slice (e : TypeId) | ptr (e : TypeId) | arr (n : Nat) (e : TypeId) | struct (fs : List (Nat × TypeId)) | map (k e : TypeId) | func | tuple | other
structure TI where
  k : TK
  size : Nat
  bytes : Nat
  zero : AV
def tk : TypeDesc → TK
  | .int k => .int k
  | .bool => .bool
  | .string => .str
  | .slice e => .slice e
  | .pointer e => .ptr e
  | .array n e => .arr n e
  | .struct fs => .struct (fs.toList.map fun f => (f.offset, f.type))
  | .map k e => .map k e
  | .func _ _ _ => .func
  | .tuple _ => .tuple
  | _ => .other
def zav : Value → AV
  | .agg cs => .agg (cs.toList.map .v)
  | z => .v z
def tinfo (P : Program) (t : TypeId) : Option TI :=
  match P.underlying t, P.info? t with
  | some d, some i => match i.zero with
    | some z => some ⟨tk d, i.size, i.bytes, zav z⟩
    | none => none
  | _, _ => none
def TI.agg (ti : TI) : Bool := match ti.k with | .arr _ _ => true | .struct _ => true | _ => false

theorem tinfo_inv {P : Program} {t : TypeId} {ti : TI} (h : tinfo P t = some ti) :
    ∃ d i z, P.underlying t = some d ∧ P.info? t = some i ∧ i.zero = some z ∧ ti = ⟨tk d, i.size, i.bytes, zav z⟩ := by
  unfold tinfo at h
  split at h
  · rename_i d i hd hi
    split at h
    · rename_i z hz
      exact ⟨d, i, z, hd, hi, hz, (Option.some.inj h).symm⟩
    · cases h
  · cases h
theorem agg_tk (d : TypeDesc) (s b : Nat) (z : AV) : (TI.agg ⟨tk d, s, b, z⟩) = d.isRow := by cases d <;> rfl
theorem tk_slice {d : TypeDesc} {e : TypeId} (h : tk d = .slice e) : d = .slice e := by cases d <;> simp [tk] at h; rw [h]
theorem tk_arr {d : TypeDesc} {n : Nat} {e : TypeId} (h : tk d = .arr n e) : d = .array n e := by cases d <;> simp [tk] at h; rw [h.1, h.2]
theorem tk_str {d : TypeDesc} (h : tk d = .str) : d = .string := by cases d <;> simp [tk] at h; rfl
theorem tk_bool {d : TypeDesc} (h : tk d = .bool) : d = .bool := by cases d <;> simp [tk] at h; rfl
theorem tk_int {d : TypeDesc} {k : IntKind} (h : tk d = .int k) : d = .int k := by cases d <;> simp [tk] at h; rw [h]
theorem tk_ptr {d : TypeDesc} {e : TypeId} (h : tk d = .ptr e) : d = .pointer e := by cases d <;> simp [tk] at h; rw [h]
theorem tk_map {d : TypeDesc} {k e : TypeId} (h : tk d = .map k e) : d = .map k e := by cases d <;> simp [tk] at h; rw [h.1, h.2]
theorem tk_struct {d : TypeDesc} {l : List (Nat × TypeId)} (h : tk d = .struct l) : ∃ fs, d = .struct fs ∧ l = fs.toList.map fun f => (f.offset, f.type) := by
  cases d <;> simp [tk] at h
  exact ⟨_, rfl, h.symm⟩

section runs
variable {P : Program} {w : World}
theorem run_sizeOf_i {t : TypeId} {i : TypeInfo} (h : P.info? t = some i) : (sizeOf t).run P w = .ok i.size w := by simp [sizeOf, typeInfo, h]
theorem run_typeInfo_i {t : TypeId} {i : TypeInfo} (h : P.info? t = some i) : (typeInfo t).run P w = .ok i w := by simp [typeInfo, h]
theorem run_zeroValue_i {t : TypeId} {i : TypeInfo} {z : Value} (h : P.info? t = some i) (hz : i.zero = some z) : (zeroValue t).run P w = .ok z w := by simp [zeroValue, typeInfo, h, hz]
theorem run_isAgg_i {t : TypeId} {d : TypeDesc} (h : P.underlying t = some d) : (isAgg t).run P w = .ok d.isRow w := by
  unfold isAgg
  rw [Sem.run_bind, run_underlying h w]
  cases d <;> rfl
end runs

/-! ### Rows -/
/-- The elements xs, k cells each, lie in block b from offset 'base' on. -/
structure RowR (w : World) (A : Foot) (b base k : Nat) (xs : List AV) : Prop where
  len : ∀ x ∈ xs, elOk k x
  cell : ∀ (i : Nat) x (m : Nat) y, xs[i]? = some x → x.cells[m]? = some y → ∃ u, w.cell? ⟨b, base + (i * k + m), none⟩ = some u ∧ Rel w A y u

theorem idx_lt {i k m n : Nat} (hi : i < n) (hm : m < k) : i * k + m < n * k := by
  have : (i + 1) * k ≤ n * k := Nat.mul_le_mul_right k hi
  rw [Nat.add_mul, Nat.one_mul] at this
  omega
theorem RowR.of_c {w : World} {A : Foot} {b base k : Nat} {xs : List AV} {c : Nat → Value} (hk : ∀ x ∈ xs, elOk k x)
    (hw : ∀ i, i < xs.length * k → w.cell? ⟨b, base + i, none⟩ = some (c i)) (h : ∀ (i : Nat) x (j : Nat) y, xs[i]? = some x → x.cells[j]? = some y → Rel w A y (c (i * k + j))) : RowR w A b base k xs :=
  ⟨hk, fun i x m y hx hy => ⟨_, hw _ (idx_lt (List.getElem?_eq_some_iff.1 hx).1 (by
    have := (List.getElem?_eq_some_iff.1 hy).1
    rw [(hk x (List.mem_of_getElem? hx)).1] at this; exact this)), h i x m y hx hy⟩⟩
theorem RowR.of_blk {w : World} {A : Foot} {b : Nat} {t : TypeId} {k : Nat} {xs : List AV} {cap : Nat} (h : BlkRel w A b (.row t k xs cap)) : RowR w A b 0 k xs := by
  obtain ⟨c, h1, h2, h3, h4, h5, h6⟩ := h
  refine ⟨h5, fun i x m y hx hy => ?_⟩
  have hm := (List.getElem?_eq_some_iff.1 hy).1
  rw [(h5 x (List.mem_of_getElem? hx)).1] at hm
  have hlt : i * k + m < c.size := by
    rw [h2]; exact Nat.lt_of_lt_of_le (idx_lt (List.getElem?_eq_some_iff.1 hx).1 hm) (Nat.mul_le_mul_right k h3)
  have hc : c[i * k + m]? = some c[i * k + m] := Array.getElem?_eq_getElem hlt
  exact ⟨c[i * k + m], by rw [Nat.zero_add, cell_of_row w b _ c t _ h1, hc], h6 i x m y _ hx hy hc⟩

def loadAV (ti : TI) (x : AV) (j : Nat) : AV := if ti.agg then .agg ((x.cells.drop j).take ti.size) else x.cells.getD j .any

theorem getD_get {xs : List AV} {i : Nat} (h : i < xs.length) : xs[i]? = some (xs.getD i .any) := by
  simp [List.getD, List.getElem?_eq_getElem h]

theorem load_ok {P : Program} {w : World} {A : Foot} {t : TypeId} {ti : TI} (hti : tinfo P t = some ti) {b base k : Nat} {xs : List AV} (R : RowR w A b base k xs) {i j : Nat} (hi : i < xs.length)
    (hj : if ti.agg then j + ti.size ≤ k else j < k) :
    ∃ u, (loadVar t ⟨b, base + (i * k + j), none⟩).run P w = .ok u w ∧ Rel w A (loadAV ti (xs.getD i .any) j) u := by
  obtain ⟨d, inf, z, hd, hinf, hz, rfl⟩ := tinfo_inv hti
  have hx := getD_get hi
  generalize xs.getD i .any = x at *
  have hlen := (R.len x (List.mem_of_getElem? hx)).1
  unfold loadAV
  rw [agg_tk] at hj ⊢
  dsimp only at hj ⊢
  by_cases hr : d.isRow = true
  · rw [if_pos hr] at hj ⊢
    have hcell : ∀ m, m < inf.size → ∃ u y, w.cell? ⟨b, base + (i * k + j) + m, none⟩ = some u ∧ x.cells[j + m]? = some y ∧ Rel w A y u := fun m hm => by
      have hy : j + m < x.cells.length := by omega
      obtain ⟨u, hu, hr⟩ := R.cell i x (j + m) _ hx (List.getElem?_eq_getElem hy)
      exact ⟨u, _, by rw [← hu]; congr 2; omega, List.getElem?_eq_getElem hy, hr⟩
    let cs : List Value := (List.range inf.size).map fun m => (w.cell? ⟨b, base + (i * k + j) + m, none⟩).getD undef
    have hcs : cs.length = inf.size := by simp [cs]
    have hrange : w.rangeAt b (base + (i * k + j)) cs := fun m v hv => by
      have hm : m < inf.size := by have := (List.getElem?_eq_some_iff.1 hv).1; omega
      obtain ⟨u, y, hu, _, _⟩ := hcell m hm
      simp [cs, hm, hu] at hv
      rw [hu, hv]
    refine ⟨.agg cs.toArray, run_loadVar_mid w b _ t cs d hrange hd hr (by simp [hinf, hcs]), .agg _ _ (by simp [hcs]; omega) ?_⟩
    intro m y u hy hu
    have hm : m < inf.size := by
      have := (List.getElem?_eq_some_iff.1 hy).1
      simp at this; omega
    obtain ⟨u', y', hu', hy', hrel⟩ := hcell m hm
    have e1 : ((x.cells.drop j).take inf.size)[m]? = some y' := by
      rw [List.getElem?_take, if_pos hm, List.getElem?_drop]; exact hy'
    have e2 : cs.toArray[m]? = some u' := by simp [cs, hm, hu']
    rw [e1] at hy; rw [e2] at hu
    cases hy; cases hu
    exact hrel
  · rw [if_neg hr] at hj ⊢
    have hy : j < x.cells.length := by omega
    obtain ⟨u, hu, hrel⟩ := R.cell i x j _ hx (List.getElem?_eq_getElem hy)
    refine ⟨u, ?_, ?_⟩
    · simp only [loadVar, Sem.run_bind, run_isAgg_i hd, Result.andThen_ok, hr, Bool.false_eq_true]
      simp [run_load, hu]
    · rw [List.getD, List.getElem?_eq_getElem hy]; exact hrel

def fo : AV → Prop × AV
  | .cond b x => (b = true, x)
  | x => (True, x)
theorem fo_ok {w : World} {A : Foot} {x : AV} {u : Value} (h : Rel w A x u) (hc : (fo x).1) : Rel w A (fo x).2 u := by
  cases x <;> first | exact h | skip
  rename_i b y
  cases h with
  | cond _ _ _ h _ => exact h hc

def ev (ρ : Env) : Operand → AV
  | .tmp t => get ρ t
  | .const x => .v x
  | .global g => .v (.pointer (some ⟨g, 0, none⟩))
  | .func f => .v (.func (.func f) #[] #[])

def lk : AHeap → Nat → Option ABlk
  | [], _ => none
  | (b', x) :: r, b => if b = b' then some x else lk r b
theorem lk_mem {L : AHeap} {b : Nat} {x : ABlk} (h : lk L b = some x) : (b, x) ∈ L := by
  induction L with
  | nil => cases h
  | cons y r ih =>
    obtain ⟨b', y⟩ := y
    simp only [lk] at h
    split at h
    · rename_i e; subst e; cases h; exact List.mem_cons_self
    · exact List.mem_cons_of_mem _ (ih h)
theorem LRel.lk {w : World} {A : Foot} {L : AHeap} (h : LRel w A L) {b : Nat} {x : ABlk} (hb : lk L b = some x) : BlkRel w A b x := h.blk _ (lk_mem hb)

abbrev ai (n : Int) : AV := .v (.int .i64 n)
abbrev ab (b : Bool) : AV := .v (.bool b)
abbrev anil : AV := .v (.slice none 0 0)

def pickAV (t : Bool) (x y : AV) : AV :=
  match x, y with
  | .v (.bool a), .v (.bool b) => ab (if t then a else b)
  | .v (.int .i64 a), .v (.int .i64 b) => ai (if t then a else b)
  | x, y => if t then x else y
theorem pickAV_eq (t : Bool) (x y : AV) : pickAV t x y = if t then x else y := by
  unfold pickAV
  split
  · cases t <;> rfl
  · cases t <;> rfl
  · rfl
def I64 (z : Int) : Prop := -9223372036854775808 ≤ z ∧ z ≤ 9223372036854775807

def ldOk (ti : TI) (k j : Nat) : Prop := if ti.agg then j + ti.size ≤ k else j < k
def aLoad (P : Program) (L : AHeap) (t : TypeId) (p : AV) : Option (Prop × AV) :=
  match tinfo P t with
  | none => none
  | some ti => match p with
    | .rp k xs i j => some (i < xs.length ∧ ldOk ti k j, loadAV ti (xs.getD i .any) j)
    | .lp b k i j => match lk L b with
      | some (.row _ k' xs _) => some (k = k' ∧ i < xs.length ∧ ldOk ti k j, loadAV ti (xs.getD i .any) j)
      | _ => none
    | _ => none
def aFieldAddr (P : Program) (s : TypeId) (p : AV) (f : Nat) : Option (Prop × AV) :=
  match tinfo P s with
  | some ⟨.struct fs, _, _, _⟩ => match fs[f]? with
    | some (off, ft) => match tinfo P ft with
      | some fi => match p with
        | .rp k xs i j => some (fi.size ≠ 0, .rp k xs i (j + off))
        | .lp b k i j => some (fi.size ≠ 0, .lp b k i (j + off))
        | _ => none
      | none => none
    | none => none
  | _ => none
def aIndexAddr (P : Program) (t : TypeId) (x ix : AV) : Option (Prop × AV) :=
  match tinfo P t, ix with
  | some ⟨.slice e, _, _, _⟩, .v (.int _ n) => match tinfo P e with
    | some ei => match x with
      | .sl k xs => some (k = ei.size ∧ 0 ≤ n ∧ n < xs.length, .rp k xs n.toNat 0)
      | .ls b k off len _ => some (k = ei.size ∧ 0 ≤ n ∧ n < len, .lp b k (off + n.toNat) 0)
      | _ => none
    | none => none
  | some ⟨.arr m e, _, _, _⟩, .v (.int _ n) => match tinfo P e with
    | some ei => match x with
      | .rp k xs i j => some (0 ≤ n ∧ n < m, if k = ei.size ∧ j = 0 then .rp k xs (i + n.toNat) 0 else .rp k xs i (j + n.toNat * ei.size))
      | .lp b k i j => some (0 ≤ n ∧ n < m, if k = ei.size ∧ j = 0 then .lp b k (i + n.toNat) 0 else .lp b k i (j + n.toNat * ei.size))
      | _ => none
    | none => none
  | _, _ => none
def aIndex (P : Program) (t : TypeId) (x ix : AV) : Option (Prop × AV) :=
  match tinfo P t, x, ix with
  | some ⟨.str, _, _, _⟩, .v (.string s), .v (.int _ n) => some (0 ≤ n ∧ n < s.size, .v (.int .u8 (s.get! n.toNat).toNat))
  | some ⟨.arr m e, _, _, _⟩, .agg cs, .v (.int _ n) => match tinfo P e with
    | some ei => some (ei.agg = false ∧ 0 ≤ n ∧ n < m ∧ n.toNat * ei.size < cs.length, cs.getD (n.toNat * ei.size) .any)
    | none => none
  | _, _, _ => none
def aField (P : Program) (t : TypeId) (x : AV) (f : Nat) : Option (Prop × AV) :=
  match tinfo P t, x with
  | some ⟨.struct fs, _, _, _⟩, .agg cs => match fs[f]? with
    | some (off, ft) => match tinfo P ft with
      | some fi => if fi.agg then some (off + fi.size ≤ cs.length, .agg ((cs.drop off).take fi.size)) else some (off < cs.length, cs.getD off .any)
      | none => none
    | none => none
  | _, _ => none
def bnd (d : Int) : Option AV → Option Int
  | none => some d
  | some (.v (.int _ n)) => some n
  | _ => none
def aSlice (P : Program) (t : TypeId) (x : AV) (lo hi : Option AV) : Option (Prop × AV) :=
  match tinfo P t with
  | some ⟨.slice e, _, _, _⟩ => match tinfo P e with
    | some ei => match x with
      | .sl k xs => match bnd 0 lo, bnd xs.length hi with
        | some l, some h => some (k = ei.size ∧ 0 ≤ l ∧ l ≤ h ∧ h ≤ xs.length, .sl k ((xs.take h.toNat).drop l.toNat))
        | _, _ => none
      | .ls b k off len cap => match bnd 0 lo, bnd len hi with
        | some l, some h => some (k = ei.size ∧ 0 ≤ l ∧ l ≤ h ∧ h ≤ cap, .ls b k (off + l.toNat) (h.toNat - l.toNat) (cap - l.toNat))
        | _, _ => none
      | .v (.slice none 0 0) => match bnd 0 lo, bnd 0 hi with
        | some l, some h => some (l = 0 ∧ h = 0, anil)
        | _, _ => none
      | _ => none
    | none => none
  | some ⟨.str, _, _, _⟩ => match x with
    | .v (.string s) => match bnd 0 lo, bnd s.size hi with
      | some l, some h => some (0 ≤ l ∧ l ≤ h ∧ h ≤ s.size, .v (.string (s.extract l.toNat h.toNat)))
      | _, _ => none
    | _ => none
  | _ => none
def aLen (P : Program) (L : AHeap) (t : TypeId) (x : AV) : Option (Prop × AV) :=
  match tinfo P t with
  | some ⟨.slice _, _, _, _⟩ => match x with
    | .sl _ xs => some (True, ai xs.length)
    | .ls _ _ _ len _ => some (True, ai len)
    | .v (.slice _ n _) => some (True, ai n)
    | _ => none
  | some ⟨.str, _, _, _⟩ => match x with
    | .v (.string s) => some (True, ai s.size)
    | _ => none
  | some ⟨.arr n _, _, _, _⟩ => some (True, ai n)
  | some ⟨.ptr e, _, _, _⟩ => match tinfo P e with
    | some ⟨.arr n _, _, _, _⟩ => some (True, ai n)
    | _ => none
  | some ⟨.map _ _, _, _, _⟩ => match x with
    | .rm ks _ => some (True, ai ks.length)
    | .lm b => match lk L b with
      | some (.amap ks _) => some (True, ai ks.length)
      | _ => none
    | .v (.map none) => some (True, ai 0)
    | _ => none
  | _ => none
def seqB (a b : ByteArray) : Bool := a.toList == b.toList
def aBin (P : Program) (op : BinOp) (t : TypeId) (x y : AV) : Option (Prop × AV) :=
  match x, y with
  | .v (.int k a), .v (.int k' b) => match op with
    | .add => if k = .i64 then some (k' = .i64 ∧ I64 (a + b), ai (a + b)) else some (k' = k, .v (.int k (k.wrap (a + b))))
    | .sub => if k = .i64 then some (k' = .i64 ∧ I64 (a - b), ai (a - b)) else some (k' = k, .v (.int k (k.wrap (a - b))))
    | .mul => if k = .i64 then some (k' = .i64 ∧ I64 (a * b), ai (a * b)) else some (k' = k, .v (.int k (k.wrap (a * b))))
    | .quo => some (k' = k ∧ b ≠ 0, .v (.int k (k.wrap (a.tdiv b))))
    | .rem => some (k' = k ∧ b ≠ 0, .v (.int k (a.tmod b)))
    | .eql => some (k' = k, ab (decide (a = b)))
    | .neq => some (k' = k, ab (!decide (a = b)))
    | .lss => some (k' = k, ab (decide (a < b)))
    | .leq => some (k' = k, ab (decide (a ≤ b)))
    | .gtr => some (k' = k, ab (decide (b < a)))
    | .geq => some (k' = k, ab (decide (b ≤ a)))
    | _ => none
  | .v (.bool a), .v (.bool b) => match tinfo P t, op with
    | some ⟨.bool, _, _, _⟩, .eql => some (True, ab (decide (a = b)))
    | some ⟨.bool, _, _, _⟩, .neq => some (True, ab (!decide (a = b)))
    | _, _ => none
  | .v (.string a), .v (.string b) => match op with
    | .eql => some (True, ab (seqB a b))
    | .neq => some (True, ab (!seqB a b))
    | .lss => some (True, ab (Op.bytesLess a.toList b.toList))
    | .gtr => some (True, ab (!(Op.bytesLess a.toList b.toList || seqB a b)))
    | _ => none
  | x, .v (.slice none 0 0) => match tinfo P t with
    | some ⟨.slice _, _, _, _⟩ => match op, x with
      | .eql, .v (.slice none 0 0) => some (True, ab true)
      | .neq, .v (.slice none 0 0) => some (True, ab false)
      | .eql, .ls _ _ _ _ _ => some (True, ab false)
      | .neq, .ls _ _ _ _ _ => some (True, ab true)
      | _, _ => none
    | _ => none
  | _, _ => none
def aUn (op : UnOp) (x : AV) : Option (Prop × AV) :=
  match op, x with
  | .not, .v (.bool b) => some (True, ab (!b))
  | .neg, .v (.int .i64 n) => some (I64 (-n), ai (-n))
  | _, _ => none
def aConv (P : Program) (src dst : TypeId) (x : AV) : Option (Prop × AV) :=
  match tinfo P src, tinfo P dst, x with
  | some _, some ⟨.int k, _, _, _⟩, .v (.int _ n) => some (True, .v (.int k (k.wrap n)))
  | _, _, _ => none
def aMin (x y : AV) : Option (Prop × AV) :=
  match x, y with
  | .v (.int k a), .v (.int k' b) => some (k' = k, .v (.int k (if b < a then b else a)))
  | _, _ => none
def aMax (x y : AV) : Option (Prop × AV) :=
  match x, y with
  | .v (.int k a), .v (.int k' b) => some (k' = k, .v (.int k (if a < b then b else a)))
  | _, _ => none
def aExtract (x : AV) (i : Nat) : Option (Prop × AV) :=
  match x with
  | .tup xs => some (i < xs.length, xs.getD i .any)
  | _ => none
def aNil (x : AV) : Option (Prop × AV) :=
  match x with
  | .rp .. | .lp .. | .clo .. => some (True, x)
  | .v (.pointer (some _)) => some (True, x)
  | .v (.func (.func _) _ _) => some (True, x)
  | _ => none

end Go.AL
