/- The layer AL, part 6: operations that make or write memory: new variables, stores, new slices, append, copy, maps made. No condition. -/
import Derived.Test.YtkfkdmefabefkaaAlState
import Derived.Laws.MakeOwn
namespace Go.AL
open Go Go.RowKit

section
variable {P : Program} {w : World} {A : Foot}

/-- The cells c hold, from their head on, the elements xs of k cells each. -/
structure ElemC (w : World) (A : Foot) (k : Nat) (xs : List AV) (c : List Value) : Prop where
  ok : ∀ x ∈ xs, elOk k x
  rel : ∀ (i : Nat) x (j : Nat) y u, xs[i]? = some x → x.cells[j]? = some y → c[i * k + j]? = some u → Rel w A y u

theorem ElemC.nil {k : Nat} {c : List Value} : ElemC w A k [] c := ⟨fun _ h => by simp at h, fun i x j y u h => by simp at h⟩
theorem ElemC.later {w' : World} {A' : Foot} {k : Nat} {xs : List AV} {c : List Value} (h : ElemC w A k xs c) (hw : ∀ b, A b → w'.heap[b]? = w.heap[b]?) (hA : ∀ b, A b → A' b) : ElemC w' A' k xs c :=
  ⟨h.ok, fun i x j y u hx hy hu => (h.rel i x j y u hx hy hu).later hw hA⟩
theorem elOk.lt {k : Nat} {x y : AV} {j : Nat} (h : elOk k x) (hy : x.cells[j]? = some y) : j < k := by
  have := (List.getElem?_eq_some_iff.1 hy).1; rw [h.1] at this; exact this
theorem BlkRel.row_iff {b : Nat} {t : TypeId} {k : Nat} {xs : List AV} {cap : Nat} : BlkRel w A b (.row t k xs cap) ↔
    ∃ c : Array Value, w.heap[b]? = some (.cells c t (0, 0)) ∧ c.size = cap * k ∧ xs.length ≤ cap ∧ cap ≤ maxLen ∧ ElemC w A k xs c.toList :=
  ⟨fun ⟨c, h1, h2, h3, h4, h5, h6⟩ => ⟨c, h1, h2, h3, h4, h5, fun i x j y u hx hy hu => h6 i x j y u hx hy (by simpa using hu)⟩,
   fun ⟨c, h1, h2, h3, h4, h5⟩ => ⟨c, h1, h2, h3, h4, h5.ok, fun i x j y u hx hy hu => h5.rel i x j y u hx hy (by simpa using hu)⟩⟩

theorem ElemC.append {k : Nat} {xs ys : List AV} {c d : List Value} (h : ElemC w A k xs c) (g : ElemC w A k ys d) (hc : c.length = xs.length * k) : ElemC w A k (xs ++ ys) (c ++ d) := by
  refine ⟨fun x hx => (List.mem_append.1 hx).elim (h.ok x) (g.ok x), fun i x j y u hx hy hu => ?_⟩
  rw [List.getElem?_append] at hx
  split at hx
  · rename_i hi
    have hj := (h.ok x (List.mem_of_getElem? hx)).lt hy
    rw [List.getElem?_append_left (by rw [hc]; exact idx_lt hi hj)] at hu
    exact h.rel i x j y u hx hy hu
  · rename_i hi
    have : xs.length * k ≤ i * k := Nat.mul_le_mul_right _ (by omega)
    rw [List.getElem?_append_right (by rw [hc]; omega), hc, show i * k + j - xs.length * k = (i - xs.length) * k + j by rw [Nat.sub_mul]; omega] at hu
    exact g.rel _ x j y u hx hy hu
/-- More cells behind do no harm. -/
theorem ElemC.tail {k : Nat} {xs : List AV} {c : List Value} (h : ElemC w A k xs c) (d : List Value) (hc : xs.length * k ≤ c.length) : ElemC w A k xs (c ++ d) :=
  ⟨h.ok, fun i x j y u hx hy hu => by
    have hj := (h.ok x (List.mem_of_getElem? hx)).lt hy
    have := idx_lt (List.getElem?_eq_some_iff.1 hx).1 hj
    rw [List.getElem?_append_left (by omega)] at hu
    exact h.rel i x j y u hx hy hu⟩
theorem ElemC.take {k : Nat} {xs : List AV} {c : List Value} (h : ElemC w A k xs c) (n : Nat) : ElemC w A k (xs.take n) (c.take (n * k)) :=
  ⟨fun x hx => h.ok x (List.mem_of_mem_take hx), fun i x j y u hx hy hu => by
    rw [List.getElem?_take] at hx hu
    split at hx
    · split at hu
      · exact h.rel i x j y u hx hy hu
      · cases hu
    · cases hx⟩
theorem ElemC.drop {k : Nat} {xs : List AV} {c : List Value} (h : ElemC w A k xs c) (n : Nat) : ElemC w A k (xs.drop n) (c.drop (n * k)) :=
  ⟨fun x hx => h.ok x (List.mem_of_mem_drop hx), fun i x j y u hx hy hu => by
    rw [List.getElem?_drop] at hx hu
    rw [← Nat.add_assoc, ← Nat.add_mul] at hu
    exact h.rel _ x j y u hx hy hu⟩
theorem ElemC.single {k : Nat} {x : AV} {u : Value} (h : Rel w A x u) (ho : okv x = true) (hk : x.cells.length = k) : ElemC w A k [x] u.cells.toList ∧ u.cells.size = k := by
  obtain ⟨h1, h2⟩ := cells_ok h ho
  refine ⟨⟨fun y hy => by simp at hy; subst hy; exact ⟨hk, ho⟩, fun i y j z v hy hz hv => ?_⟩, by have := h1.1; simp at this; omega⟩
  cases i with
  | zero => simp at hy; subst hy; exact h1.2 j z v hz (by simpa using hv)
  | succ i => simp at hy

/-- A new element's cells at place j. -/
def stEl (x : AV) (j : Nat) (vs : List AV) : AV :=
  match x with
  | .agg cs => .agg (splice cs j vs)
  | _ => vs.getD 0 .any

theorem one_of_okv {x : AV} (h : okv x = true) : ∀ c ∈ x.cells, one c = true := by
  cases x with
  | agg cs => exact fun c hc => List.all_eq_true.1 h c hc
  | _ => exact fun c hc => by simp [AV.cells] at hc; subst hc; exact h
theorem stEl_ok {k : Nat} {x v : AV} {j : Nat} (hx : elOk k x) (hv : okv v = true) (hj : j + v.cells.length ≤ k) (hp : 0 < v.cells.length) : elOk k (stEl x j v.cells) ∧ (stEl x j v.cells).cells = splice x.cells j v.cells := by
  have h1 := one_of_okv hv
  cases x with
  | agg cs =>
    have hl : cs.length = k := hx.1
    refine ⟨⟨?_, ?_⟩, rfl⟩
    · show (splice cs j v.cells).length = k
      rw [splice_length _ _ _ (by omega)]; exact hl
    · refine List.all_eq_true.2 fun c hc => ?_
      unfold splice at hc
      rcases List.mem_append.1 hc with hc | hc
      · rcases List.mem_append.1 hc with hc | hc
        · exact List.all_eq_true.1 hx.2 c (List.mem_of_mem_take hc)
        · exact h1 c hc
      · exact List.all_eq_true.1 hx.2 c (List.mem_of_mem_drop hc)
  | _ =>
    have hk : (1 : Nat) = k := hx.1
    have hj0 : j = 0 := by omega
    have hl : v.cells.length = 1 := by omega
    subst hj0
    obtain ⟨c, hc⟩ := List.length_eq_one_iff.1 hl
    have ho : one c = true := h1 c (by rw [hc]; simp)
    rw [hc]
    have hcc : c.cells = [c] := one_cells ho
    refine ⟨⟨by rw [← hk]; show c.cells.length = 1; rw [hcc]; rfl, ?_⟩, ?_⟩
    · show okv c = true
      cases c <;> first | exact ho | (simp [one] at ho)
    · show c.cells = _
      rw [hcc]; rfl

/-- The model's store into an owned block. -/
theorem store_ok {t : TypeId} {ti : TI} (hti : tinfo P t = some ti) {b : Nat} {t' : TypeId} {k : Nat} {xs : List AV} {cap : Nat} (hb : BlkRel w A b (.row t' k xs cap)) {i j : Nat} {v : AV} {u : Value}
    (hi : i < xs.length) (hj : j + ti.size ≤ k) (hs : v.cells.length = ti.size) (hp : 0 < ti.size) (ho : okv v = true) (hv : Rel w A v u) (hA : ¬ A b) :
    ∃ w', (Instr.storeAt t (.pointer (some ⟨b, i * k + j, none⟩)) u).run P w = .ok () w' ∧ (∀ m, m ≠ b → w'.heap[m]? = w.heap[m]?) ∧ w'.heap.size = w.heap.size ∧ w'.os = w.os ∧ w'.tape = w.tape ∧ w'.output = w.output ∧
      BlkRel w' A b (.row t' k (xs.set i (stEl (xs.getD i .any) j v.cells)) cap) := by
  obtain ⟨c, hc, hsz, hl, hcap, E⟩ := BlkRel.row_iff.1 hb
  obtain ⟨d, inf, z, hd, hinf, hz, rfl⟩ := tinfo_inv hti
  obtain ⟨hcells, hone⟩ := cells_ok hv ho
  have hun : u.cells.toList.length = inf.size := by rw [hcells.1, hs]
  have hx := getD_get hi
  have hxo := E.ok _ (List.mem_of_getElem? hx)
  have hfit : i * k + j + 0 + u.cells.toList.length ≤ c.size := by
    rw [hun, hsz]
    have h1 : (i + 1) * k ≤ cap * k := Nat.mul_le_mul_right _ (by omega)
    rw [Nat.add_mul] at h1; dsimp only at hj; omega
  have hrun := run_storeCells_at P b (i * k + j) t' u.cells.toList 0 c w hc hfit hone
  generalize hnew : (c.toList.take (i * k + j + 0) ++ u.cells.toList ++ c.toList.drop (i * k + j + 0 + u.cells.toList.length)).toArray = cn at hrun
  have hcn : cn.toList = splice c.toList (i * k + j) u.cells.toList := by rw [← hnew]; rfl
  have hfit' : i * k + j + u.cells.toList.length ≤ c.toList.length := by simpa using hfit
  refine ⟨w.setRow b cn, ?_, fun m hm => setRow_other w b m cn hm, size_setRow w b cn, rfl, rfl, rfl, ?_⟩
  · have h2 : ¬ (u.cells.size ≠ inf.size) := by simp at hun; omega
    simp only [Instr.storeAt, Instr.sureAddr, Sem.run_bind, Sem.run_pure, Result.andThen_ok, storeVar, run_sizeOf_i hinf]
    rw [if_neg h2]
    exact hrun
  · have keep : ∀ m, A m → (w.setRow b cn).heap[m]? = w.heap[m]? := fun m hm => setRow_other w b m cn (fun e => hA (e ▸ hm))
    refine BlkRel.row_iff.2 ⟨cn, setRow_heap w b c cn t' _ hc, ?_, by simpa using hl, hcap, ?_⟩
    · rw [← Array.length_toList, hcn, splice_length _ _ _ hfit', Array.length_toList, hsz]
    · obtain ⟨h5, h6⟩ := stEl_ok (j := j) hxo ho (by dsimp only at hj hs; omega) (by dsimp only at hs hp; omega)
      refine ⟨fun y hy => ?_, fun i' y j' z' u' hy hz' hu' => ?_⟩
      · rcases List.mem_or_eq_of_mem_set hy with hy | rfl
        · exact E.ok y hy
        · exact h5
      · rw [hcn, splice_get _ _ _ hfit', hun] at hu'
        refine Rel.later (w := w) (A := A) ?_ keep (fun _ h => h)
        by_cases hii : i' = i
        · subst hii
          rw [List.getElem?_set_self hi] at hy
          cases hy
          rw [h6, splice_get _ _ _ (by rw [hxo.1, hs]; exact hj), hs] at hz'
          dsimp only at hz'
          by_cases hr : j ≤ j' ∧ j' < j + inf.size
          · rw [if_pos hr] at hz'
            rw [if_pos (show i' * k + j ≤ i' * k + j' ∧ i' * k + j' < i' * k + j + inf.size by omega), show i' * k + j' - (i' * k + j) = j' - j by omega] at hu'
            exact hcells.2 _ _ _ hz' hu'
          · rw [if_neg hr] at hz'
            rw [if_neg (show ¬ (i' * k + j ≤ i' * k + j' ∧ i' * k + j' < i' * k + j + inf.size) by omega)] at hu'
            exact E.rel i' _ j' z' u' hx hz' hu'
        · rw [List.getElem?_set_ne (Ne.symm hii)] at hy
          have hj' := (E.ok y (List.mem_of_getElem? hy)).lt hz'
          have hout : ¬ (i * k + j ≤ i' * k + j' ∧ i' * k + j' < i * k + j + inf.size) := by
            intro ⟨h7, h8⟩
            dsimp only at hj
            rcases Nat.lt_or_gt_of_ne hii with h9 | h9
            · have : (i' + 1) * k ≤ i * k := Nat.mul_le_mul_right _ h9
              rw [Nat.add_mul] at this; omega
            · have : (i + 1) * k ≤ i' * k := Nat.mul_le_mul_right _ h9
              rw [Nat.add_mul] at this; omega
          rw [if_neg hout] at hu'
          exact E.rel i' y j' z' u' hy hz' hu'


/-! ### A row that is read-only from here on -/
theorem rp_of_blk {A' : Foot} {b : Nat} {t : TypeId} {k : Nat} {xs : List AV} {cap : Nat} (h : BlkRel w A b (.row t k xs cap)) (hb : A' b) (hA : ∀ b, A b → A' b) (i j : Nat) :
    Rel w A' (.rp k xs i j) (.pointer (some ⟨b, i * k + j, none⟩)) := by
  obtain ⟨c, h1, h2, h3, h4, E⟩ := BlkRel.row_iff.1 h
  have hlt : ∀ m, m < xs.length * k → m < c.size := fun m hm => by
    rw [h2]; exact Nat.lt_of_lt_of_le hm (Nat.mul_le_mul_right _ h3)
  have := Rel.rp (w := w) (A := A') k xs i j b 0 (fun m => c.toList.getD m undef) hb E.ok
    (fun m hm => by rw [Nat.zero_add, cell_of_row w b m c t _ h1]; simp [hlt m hm])
    (fun i x j y hx hy => by
      have hj := (E.ok x (List.mem_of_getElem? hx)).lt hy
      have hm := hlt _ (idx_lt (List.getElem?_eq_some_iff.1 hx).1 hj)
      exact (E.rel i x j y _ hx hy (by simp [hm])).later (fun _ _ => rfl) hA)
  rwa [Nat.zero_add] at this
theorem sl_of_blk {A' : Foot} {b : Nat} {t : TypeId} {k : Nat} {xs : List AV} {cap : Nat} (h : BlkRel w A b (.row t k xs cap)) (hb : A' b) (hA : ∀ b, A b → A' b) {off n cap' o : Nat} (hn : off + n ≤ xs.length) (hc : n ≤ cap') (hm : cap' ≤ maxLen)
    (ho : o = off * k ∨ cap' = 0) : Rel w A' (.sl k ((xs.drop off).take n)) (.slice (some ⟨b, o, none⟩) n cap') := by
  obtain ⟨c, h1, h2, h3, h4, E⟩ := BlkRel.row_iff.1 h
  by_cases hz : n = 0
  · subst hz; rw [List.take_zero]; exact .sl0 _ _ _ hm
  · have ho : o = off * k := by rcases ho with ho | ho; exact ho; omega
    subst ho
    have hlen : ((xs.drop off).take n).length = n := by simp; omega
    have hlt : ∀ m, m < n * k → off * k + m < c.size := fun m hm => by
      rw [h2]
      have : (off + n) * k ≤ cap * k := Nat.mul_le_mul_right _ (by omega)
      rw [Nat.add_mul] at this; omega
    have := Rel.sl (w := w) (A := A') k ((xs.drop off).take n) b (off * k) cap' (fun m => c.toList.getD (off * k + m) undef) hb (by omega) hm (fun x hx => E.ok x (List.mem_of_mem_drop (List.mem_of_mem_take hx)))
      (fun m hm => by
        rw [hlen] at hm
        rw [cell_of_row w b _ c t _ h1]; simp [hlt m hm])
      (fun i x j y hx hy => by
        have hi : i < n := by have := (List.getElem?_eq_some_iff.1 hx).1; omega
        have hx' : xs[off + i]? = some x := by
          rw [List.getElem?_take, if_pos hi, List.getElem?_drop] at hx; exact hx
        have hj := (E.ok x (List.mem_of_getElem? hx')).lt hy
        have hm := hlt _ (idx_lt hi hj)
        refine (E.rel (off + i) x j y _ hx' hy ?_).later (fun _ _ => rfl) hA
        rw [Nat.add_mul, Nat.add_assoc]
        simp [hm])
    rwa [hlen] at this

/-! ### New rows -/
theorem BlkRel.new {c : Array Value} {t : TypeId} {k : Nat} {xs : List AV} {cap : Nat} (E : ElemC w A k xs c.toList) (hA : ∀ b, A b → b < w.heap.size) (hs : c.size = cap * k) (hl : xs.length ≤ cap) (hc : cap ≤ maxLen) :
    BlkRel (w.alloc (.cells c t)) A w.heap.size (.row t k xs cap) :=
  BlkRel.row_iff.2 ⟨c, heap_alloc_new w _, hs, hl, hc, E.later (fun b hb => Below.heap_alloc w _ b (hA b hb)) (fun _ h => h)⟩

/-- Where an appended or copied slice's elements come from. -/
def srcOf (L : AHeap) (k : Nat) (x : AV) : Option (Prop × List AV) :=
  match x with
  | .sl k' ys => some (k = k', ys)
  | .ls b k' off len _ => match lk L b with
    | some (.row _ k2 xs _) => some (k = k' ∧ k = k2 ∧ off + len ≤ xs.length, (xs.drop off).take len)
    | _ => none
  | .v (.slice none 0 0) => some (True, [])
  | _ => none
structure SrcOk (w : World) (A : Foot) (k : Nat) (ys : List AV) (u : Value) (news : List Value) : Prop where
  shape : (∃ a cap, u = .slice (some a) ys.length cap ∧ ∀ (j : Nat) v, news[j]? = some v → w.cell? (a.add j) = some v) ∨ (u = .slice none 0 0 ∧ ys = [] ∧ news = []) ∨ (∃ a cap, u = .slice a 0 cap ∧ ys = [] ∧ news = [])
  len : news.length = ys.length * k
  el : ElemC w A k ys news
  one : ∀ v ∈ news, v.oneCell' = true
theorem ElemC.one {k : Nat} {ys : List AV} {news : List Value} (h : ElemC w A k ys news) (hl : news.length = ys.length * k) (hk : 0 < k) : ∀ v ∈ news, v.oneCell' = true := fun v hv => by
  obtain ⟨m, hm⟩ := List.getElem?_of_mem hv
  have hlt : m < ys.length * k := by have := (List.getElem?_eq_some_iff.1 hm).1; omega
  have hi : m / k < ys.length := (Nat.div_lt_iff_lt_mul hk).2 hlt
  have hx := List.getElem?_eq_getElem hi
  have ho := h.ok _ (List.mem_of_getElem? hx)
  have hj : m % k < (ys[m / k]).cells.length := by rw [ho.1]; exact Nat.mod_lt _ hk
  have hy := List.getElem?_eq_getElem hj
  exact one_ok (h.rel (m / k) _ (m % k) _ v hx hy (by rw [Nat.mul_comm, Nat.div_add_mod]; exact hm)) (one_of_okv ho.2 _ (List.mem_of_getElem? hy))

theorem srcOf_ok {L : AHeap} {k : Nat} {x : AV} {u : Value} {c : Prop} {ys : List AV} (h : srcOf L k x = some (c, ys)) (hc : c) (hL : LRel w A L) (hx : Rel w A x u) (hk : 0 < k) : ∃ news, SrcOk w A k ys u news := by
  unfold srcOf at h
  split at h
  · cases h
    obtain rfl := hc
    cases hx with
    | sl0 _ a cap _ => exact ⟨[], .inr (.inr ⟨a, cap, rfl, rfl, rfl⟩), by simp, .nil, by simp⟩
    | sl _ _ b off cap cc hA hl hcap hok hw hh =>
      have hlen : ((List.range (ys.length * k)).map cc).length = ys.length * k := by simp
      have E : ElemC w A k ys ((List.range (ys.length * k)).map cc) := ⟨hok, fun i x j y u hx hy hu => by
          have hj := (hok x (List.mem_of_getElem? hx)).lt hy
          have := idx_lt (List.getElem?_eq_some_iff.1 hx).1 hj
          rw [List.getElem?_map, List.getElem?_range this] at hu
          cases hu
          exact hh i x j y hx hy⟩
      refine ⟨(List.range (ys.length * k)).map cc, .inl ⟨_, _, rfl, fun j v hv => ?_⟩, hlen, E, E.one hlen hk⟩
      have hj : j < ys.length * k := by have := (List.getElem?_eq_some_iff.1 hv).1; omega
      rw [List.getElem?_map, List.getElem?_range hj] at hv
      cases hv
      rw [Addr.add_lit]; exact hw j hj
  · split at h
    · rename_i b k' off len cap _ t k2 xs cap2 hlk
      cases h
      obtain ⟨rfl, rfl, hn⟩ := hc
      obtain ⟨o, rfl, hle, hcap, ho⟩ := hx.inv_ls
      obtain ⟨c, h1, h2, h3, h4, E⟩ := BlkRel.row_iff.1 (hL.lk hlk)
      by_cases hz : len = 0
      · subst hz
        rw [List.take_zero]
        exact ⟨[], .inr (.inr ⟨_, _, rfl, rfl, rfl⟩), by simp, .nil, by simp⟩
      · have ho : o = off * k := by rcases ho with ho | ho; exact ho; omega
        subst ho
        have hlen : ((xs.drop off).take len).length = len := by simp; omega
        have hcl : (off + len) * k ≤ c.toList.length := by rw [Array.length_toList, h2]; exact Nat.mul_le_mul_right _ (by omega)
        have hl2 : ((c.toList.drop (off * k)).take (len * k)).length = ((xs.drop off).take len).length * k := by
          rw [hlen, List.length_take, List.length_drop]; rw [Nat.add_mul] at hcl; omega
        have E2 := (E.drop off).take len
        refine ⟨_, .inl ⟨_, _, by rw [hlen], fun j v hv => ?_⟩, hl2, E2, E2.one hl2 hk⟩
        rw [Addr.add_lit, cell_of_row w b _ c t _ h1]
        rw [List.getElem?_take] at hv
        split at hv
        · rw [List.getElem?_drop] at hv; simpa using hv
        · cases hv
    · cases h
  · cases h
    obtain rfl := hx.inv_v
    exact ⟨[], .inr (.inl ⟨rfl, rfl, rfl⟩), by simp, .nil, by simp⟩
  · cases h

end
end Go.AL
