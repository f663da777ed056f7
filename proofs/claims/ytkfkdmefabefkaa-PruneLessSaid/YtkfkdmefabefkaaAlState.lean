/- The layer AL, part 5: the state of a walk and how one operation carries it on. No condition. -/
import Derived.Test.YtkfkdmefabefkaaAlFill
import Derived.OrdersIn
import Derived.StillTail
namespace Go.AL
open Go Go.RowKit

structure StW (w0 : World) (M A0 : Foot) (N : Nat) (ρ : Env) (L : AHeap) (a : Act) (w : World) (A : Foot) (ds : List Nat) : Prop where
  fr : Fr w0 M w
  asub : ∀ b, A b → A0 b ∨ M b ∨ w0.heap.size ≤ b
  l : LRel w A L
  lown : ∀ x ∈ L, M x.1 ∨ w0.heap.size ≤ x.1
  size : a.tmps.size = N
  env : ∀ i, Rel w A (get ρ i) (a.tmps.getD i undef)
  dfs : a.defers = ds.map (fun D => { target := .collected D, args := #[] })
  dblk : ∀ D ∈ ds, w.heap[D]? = some (.deferred (some [])) ∧ ¬ A D ∧ ¬ keysOf L D ∧ (M D ∨ w0.heap.size ≤ D)
  dnd : ds.Nodup

theorem st_iff {w0 : World} {M A0 : Foot} {N : Nat} {ρ : Env} {L : AHeap} {a : Act} {w : World} : St w0 M A0 N ρ L a w ↔ ∃ A ds, StW w0 M A0 N ρ L a w A ds :=
  ⟨fun ⟨A, ds, h1, h2, h3, h4, h5, h6, h7, h8, h9⟩ => ⟨A, ds, h1, h2, h3, h4, h5, h6, h7, h8, h9⟩,
   fun ⟨A, ds, h⟩ => ⟨A, ds, h.fr, h.asub, h.l, h.lown, h.size, h.env, h.dfs, h.dblk, h.dnd⟩⟩

section
variable {w0 : World} {M A0 : Foot} {N : Nat} {ρ : Env} {L : AHeap} {a : Act} {w : World} {A : Foot} {ds : List Nat}

theorem StW.ev (h : StW w0 M A0 N ρ L a w A ds) (x : Operand) : Rel w A (ev ρ x) (a.eval x) := by
  cases x with
  | tmp t => exact h.env t
  | const v => exact .v v
  | global g => exact .v _
  | func f => exact .v _

theorem StW.put (h : StW w0 M A0 N ρ L a w A ds) {d : Option Tmp} {x : AV} {v : Value} (hd : ∀ i, d = some i → i < N) (hr : Rel w A x v) : StW w0 M A0 N (put ρ d x) L (a.put d v) w A ds := by
  cases d with
  | none => exact h
  | some d =>
    refine { h with size := by simpa [Act.put] using h.size, env := fun i => ?_, dfs := h.dfs }
    simp only [AL.put, get, Act.put]
    by_cases hi : i = d
    · subst hi
      have hlt : i < a.tmps.size := by rw [h.size]; exact hd i rfl
      rw [if_pos rfl]
      simpa [Array.getD, hlt] using hr
    · rw [if_neg hi]
      have := h.env i
      simpa [Array.getD_eq_getD_getElem?, Array.getElem?_setIfInBounds_ne (Ne.symm hi)] using this

theorem StW.advance (h : StW w0 M A0 N ρ L a w A ds) {w' : World} {A' : Foot} {L' : AHeap} (hf : Fr w (keysOf L) w') (hA : ∀ b, A b → A' b)
    (hA' : ∀ b, A' b → A b ∨ keysOf L b ∨ w.heap.size ≤ b) (hL : LRel w' A' L') (hk : ∀ x ∈ L', keysOf L x.1 ∨ w.heap.size ≤ x.1) : StW w0 M A0 N ρ L' a w' A' ds := by
  have hKM : ∀ b, keysOf L b → M b ∨ w0.heap.size ≤ b := fun b ⟨x, hx, e⟩ => e ▸ h.lown x hx
  have hsz := h.fr.size
  have keep : ∀ b, A b → w'.heap[b]? = w.heap[b]? := fun b hb => hf.block b (h.l.abnd b hb) (fun ⟨x, hx, e⟩ => h.l.disj x hx (e ▸ hb))
  refine ⟨h.fr.trans hf hKM, fun b hb => ?_, hL, fun x hx => ?_, h.size, fun i => (h.env i).later keep hA, h.dfs, fun D hD => ?_, h.dnd⟩
  · rcases hA' b hb with h1 | h1 | h1
    · exact h.asub b h1
    · exact .inr (hKM b h1)
    · exact .inr (.inr (by omega))
  · rcases hk x hx with h1 | h1
    · exact hKM _ h1
    · exact .inr (by omega)
  · obtain ⟨h1, h2, h3, h4⟩ := h.dblk D hD
    have hlt : D < w.heap.size := (Array.getElem?_eq_some_iff.1 h1).1
    refine ⟨(hf.block D hlt h3).trans h1, fun hb => ?_, fun ⟨x, hx, e⟩ => ?_, h4⟩
    · rcases hA' D hb with h5 | h5 | h5
      · exact h2 h5
      · exact h3 h5
      · omega
    · rcases hk x hx with h5 | h5
      · exact h3 (e ▸ h5)
      · omega

/-! ### The owned blocks -/
theorem LRel.alloc (h : LRel w A L) {o : Obj} {x : ABlk} (hx : BlkRel (w.alloc o) A w.heap.size x) : LRel (w.alloc o) A ((w.heap.size, x) :: L) := by
  have keep : ∀ b, b < w.heap.size → (w.alloc o).heap[b]? = w.heap[b]? := fun b hb => Below.heap_alloc w o b hb
  refine ⟨fun b hb => by have := h.abnd b hb; simp; omega, fun y hy => ?_, ?_, fun y hy => ?_⟩
  · rcases List.mem_cons.1 hy with rfl | hy
    · exact fun hb => by have := h.abnd _ hb; simp at this
    · exact h.disj y hy
  · simp only [List.map_cons, List.nodup_cons]
    refine ⟨fun hm => ?_, h.nodup⟩
    obtain ⟨y, hy, e⟩ := List.mem_map.1 hm
    have := (h.blk y hy).lt
    omega
  · rcases List.mem_cons.1 hy with rfl | hy
    · exact hx
    · exact (h.blk y hy).later (keep _ (h.blk y hy).lt) (fun b hb => keep b (h.abnd b hb)) (fun _ h => h)

/-- A new block that is read-only from the first. -/
theorem LRel.allocF (h : LRel w A L) (o : Obj) : LRel (w.alloc o) (fun b => A b ∨ b = w.heap.size) L := by
  have keep : ∀ b, b < w.heap.size → (w.alloc o).heap[b]? = w.heap[b]? := fun b hb => Below.heap_alloc w o b hb
  refine ⟨fun b hb => ?_, fun y hy hb => ?_, h.nodup, fun y hy => (h.blk y hy).later (keep _ (h.blk y hy).lt) (fun b hb => keep b (h.abnd b hb)) (fun _ h => .inl h)⟩
  · rcases hb with hb | rfl
    · have := h.abnd b hb; simp; omega
    · simp
  · rcases hb with hb | hb
    · exact h.disj y hy hb
    · have := (h.blk y hy).lt; omega

def upd : AHeap → Nat → ABlk → AHeap
  | [], _, _ => []
  | (b', y) :: r, b, x => if b = b' then (b', x) :: r else (b', y) :: upd r b x
def del : AHeap → Nat → AHeap
  | [], _ => []
  | (b', y) :: r, b => if b = b' then r else (b', y) :: del r b
theorem upd_keys (L : AHeap) (b : Nat) (x : ABlk) : (upd L b x).map (·.1) = L.map (·.1) := by
  induction L with
  | nil => rfl
  | cons y r ih => obtain ⟨b', y⟩ := y; simp only [upd]; split <;> simp_all
theorem mem_upd {L : AHeap} (hn : (L.map (·.1)).Nodup) {b : Nat} {x : ABlk} {y : Nat × ABlk} (h : y ∈ upd L b x) : (y = (b, x)) ∨ (y ∈ L ∧ y.1 ≠ b) := by
  induction L with
  | nil => cases h
  | cons z r ih =>
    obtain ⟨b', z⟩ := z
    simp only [List.map_cons, List.nodup_cons] at hn
    simp only [upd] at h
    split at h
    · rename_i e; subst e
      rcases List.mem_cons.1 h with rfl | h
      · exact .inl rfl
      · exact .inr ⟨List.mem_cons_of_mem _ h, fun e => hn.1 (e ▸ List.mem_map_of_mem h)⟩
    · rename_i e
      rcases List.mem_cons.1 h with rfl | h
      · exact .inr ⟨List.mem_cons_self, fun e' => e e'.symm⟩
      · rcases ih hn.2 h with h' | h'
        · exact .inl h'
        · exact .inr ⟨List.mem_cons_of_mem _ h'.1, h'.2⟩
theorem del_sub (L : AHeap) (b : Nat) : (del L b).Sublist L := by
  induction L with
  | nil => exact .slnil
  | cons z r ih =>
    obtain ⟨b', z⟩ := z
    simp only [del]
    split
    · exact List.sublist_cons_self _ _
    · exact ih.cons_cons _
theorem mem_del {L : AHeap} (hn : (L.map (·.1)).Nodup) {b : Nat} {y : Nat × ABlk} (h : y ∈ del L b) : y ∈ L ∧ y.1 ≠ b := by
  induction L with
  | nil => cases h
  | cons z r ih =>
    obtain ⟨b', z⟩ := z
    simp only [List.map_cons, List.nodup_cons] at hn
    simp only [del] at h
    split at h
    · rename_i e; subst e
      exact ⟨List.mem_cons_of_mem _ h, fun e => hn.1 (e ▸ List.mem_map_of_mem h)⟩
    · rename_i e
      rcases List.mem_cons.1 h with rfl | h
      · exact ⟨List.mem_cons_self, fun e' => e e'.symm⟩
      · exact ⟨List.mem_cons_of_mem _ (ih hn.2 h).1, (ih hn.2 h).2⟩
theorem keys_upd {L : AHeap} {b : Nat} {x : ABlk} (y : Nat × ABlk) (h : y ∈ upd L b x) : keysOf L y.1 := by
  have : y.1 ∈ (upd L b x).map (·.1) := List.mem_map_of_mem h
  rw [upd_keys] at this
  obtain ⟨z, hz, e⟩ := List.mem_map.1 this
  exact ⟨z, hz, e⟩

/-- One owned block is turned. -/
theorem LRel.set (h : LRel w A L) {b : Nat} {x : ABlk} {w' : World} (hf : ∀ k, k < w.heap.size → k ≠ b → w'.heap[k]? = w.heap[k]?) (hs : w.heap.size ≤ w'.heap.size) (hb : ¬ A b) (hx : BlkRel w' A b x) : LRel w' A (upd L b x) := by
  have keep : ∀ b', A b' → w'.heap[b']? = w.heap[b']? := fun b' hb' => hf b' (h.abnd b' hb') (fun e => hb (e ▸ hb'))
  refine ⟨fun b hb => Nat.lt_of_lt_of_le (h.abnd b hb) hs, fun y hy => ?_, by rw [upd_keys]; exact h.nodup, fun y hy => ?_⟩
  · rcases mem_upd h.nodup hy with rfl | ⟨hy, _⟩
    · exact hb
    · exact h.disj y hy
  · rcases mem_upd h.nodup hy with rfl | ⟨hy, hne⟩
    · exact hx
    · exact (h.blk y hy).later (hf _ (h.blk y hy).lt hne) keep (fun _ h => h)
theorem LRel.sub (h : LRel w A L) {L' : AHeap} (hs : L'.Sublist L) : LRel w A L' :=
  ⟨h.abnd, fun x hx => h.disj x (hs.subset hx), h.nodup.sublist (hs.map _), fun x hx => h.blk x (hs.subset hx)⟩
/-- An owned block is read-only from here on. -/
theorem LRel.freeze (h : LRel w A L) {b : Nat} (hb : b < w.heap.size) : LRel w (fun k => A k ∨ k = b) (del L b) := by
  refine ⟨fun k hk => ?_, fun y hy hk => ?_, h.nodup.sublist ((del_sub L b).map _), fun y hy => (h.blk y (mem_del h.nodup hy).1).later rfl (fun _ _ => rfl) (fun _ h => .inl h)⟩
  · rcases hk with hk | rfl
    · exact h.abnd k hk
    · exact hb
  · obtain ⟨h1, h2⟩ := mem_del h.nodup hy
    rcases hk with hk | hk
    · exact h.disj y h1 hk
    · exact h2 hk
end

/-- What a walk is of: the program, how many temporaries, whether in a round of a range over a function, and which boxes are read-only from their first store on. -/
structure Cfg where
  P : Program
  N : Nat
  r : Option Nat
  fz : List Nat

def isFz : List Nat → Option Tmp → Bool
  | [], _ => false
  | x :: r, d => if d = some x then true else isFz r d

abbrev ARes := Env → AHeap → Prop

def post (w0 : World) (M A0 : Foot) (N : Nat) (K : ARes) : Act → World → Prop := fun a' w' => ∃ ρ' L', K ρ' L' ∧ St w0 M A0 N ρ' L' a' w'

/-- One operation, told of abstract states. -/
def AOp (C : Cfg) (o : Oper) (ρ : Env) (L : AHeap) (K : ARes) : Prop :=
  ∀ n w0 M A0 a w (Qx : Exit → Act → World → Prop), St w0 M A0 C.N ρ L a w → o.wpIn (Fw C.r) n C.P a w (post w0 M A0 C.N K) Qx

theorem AOp.mono {C : Cfg} {o : Oper} {ρ : Env} {L : AHeap} {K K' : ARes} (h : AOp C o ρ L K) (hk : ∀ ρ L, K ρ L → K' ρ L) : AOp C o ρ L K' :=
  fun n w0 M A0 a w Qx hs => Oper.wpIn_mono (fun _ _ ⟨ρ', L', h1, h2⟩ => ⟨ρ', L', hk _ _ h1, h2⟩) (h n w0 M A0 a w Qx hs)

def dstOk (C : Cfg) (o : Oper) : Prop := ∀ i, o.dst = some i → i < C.N

/-- The model's run of an operation gives a value; perhaps in a new world. -/
theorem AOp.of_run {C : Cfg} {o : Oper} {ρ : Env} {L : AHeap} {K : ARes} (hdef : ∀ c, o.op ≠ .defer c)
    (h : ∀ w0 M A0 a w A ds, StW w0 M A0 C.N ρ L a w A ds → ∃ nx w', (execOp a.eval o).run C.P w = .ok nx w' ∧
      ((∃ v, nx = .value v ∧ post w0 M A0 C.N K (a.put o.dst v) w') ∨ (nx = .skip ∧ post w0 M A0 C.N K (a.put o.dst undef) w'))) : AOp C o ρ L K := by
  intro n w0 M A0 a w Qx hs
  obtain ⟨A, ds, hs⟩ := st_iff.1 hs
  obtain ⟨nx, w', hr, hp⟩ := h w0 M A0 a w A ds hs
  refine ⟨fun f _ => trivial, ?_⟩
  rw [Oper.semAt_eq _ _ _ hdef, hr]
  rcases hp with ⟨v, rfl, hp⟩ | ⟨rfl, hp⟩
  · exact hp
  · exact hp

theorem AOp.val {C : Cfg} {o : Oper} {ρ : Env} {L : AHeap} {K : ARes} (hd : dstOk C o) (hdef : ∀ c, o.op ≠ .defer c) {x : AV}
    (h : ∀ (a : Act) w A, (∀ y, Rel w A (ev ρ y) (a.eval y)) → LRel w A L → ∃ u, (execOp a.eval o).run C.P w = .ok (.value u) w ∧ Rel w A x u) (hK : K (put ρ o.dst x) L) : AOp C o ρ L K :=
  AOp.of_run hdef fun w0 M A0 a w A ds hs => by
    obtain ⟨u, hr, hrel⟩ := h a w A hs.ev hs.l
    exact ⟨_, w, hr, .inl ⟨u, rfl, _, _, hK, st_iff.2 ⟨A, ds, hs.put hd hrel⟩⟩⟩

end Go.AL
