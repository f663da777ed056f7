/- The layer AL, part 11: statements that draw their order: where the operations of a first part only yield values, the order of the text serves for every order. No condition. -/
import Derived.Test.YtkfkdmefabefkaaAlRegion
namespace Go.AL
open Go Go.RowKit

/-- In every state with the values of ρ, operation number i yields x, and leaves the memory as it is told. -/
def Yl (C : Cfg) (ops : Array Oper) (L : AHeap) (i : Nat) (d : Option Tmp) (x : AV) (ρ : Env) : Prop := GOp C ops i ρ L fun ρ' L' => ρ' = put ρ d x ∧ L' = L
def Ylds (C : Cfg) (ops : Array Oper) (L : AHeap) (i : Nat) (o : Oper) (x : AV) (ρ : Env) : Prop :=
  ∀ ρ', (∀ t ∈ o.looksAt ops, get ρ' t = get ρ t) → Yl C ops L i o.dst x ρ'

theorem get_put (ρ : Env) (d : Option Tmp) (x : AV) (i : Nat) : get (put ρ d x) i = if d = some i then x else get ρ i := by
  cases d with
  | none => simp [put]
  | some d =>
    simp only [put, get, Option.some.injEq]
    by_cases h : i = d
    · rw [if_pos h, if_pos h.symm]
    · rw [if_neg h, if_neg (fun e => h e.symm)]

def anyF (C : Cfg) (md : Region.Mode) (ops : Array Oper) (n : Nat) (L : AHeap) (fin : Array Bool → Env → Prop) : Nat → Array Bool → Env → Prop
  | 0, listed, ρ => ∃ ρ', (∀ i, get ρ' i = get ρ i) ∧ fin listed ρ'
  | f + 1, listed, ρ => Region.ready md ops listed ≠ [] ∧ ∀ i ∈ Region.ready md ops listed, i < n ∧ ∃ o x, ops[i]? = some o ∧ Ylds C ops L i o x ρ ∧ anyF C md ops n L fin f (listed.setIfInBounds i true) (put ρ o.dst x)

section
variable {C : Cfg} {md : Region.Mode} {ops : Array Oper} {n : Nat} {L : AHeap}

theorem anyF_congr {fin : Array Bool → Env → Prop} : ∀ (f : Nat) (listed : Array Bool) (ρ ρ' : Env), (∀ i, get ρ i = get ρ' i) → anyF C md ops n L fin f listed ρ → anyF C md ops n L fin f listed ρ'
  | 0, listed, ρ, ρ', he, ⟨ρ2, h1, h2⟩ => ⟨ρ2, fun i => (h1 i).trans (he i), h2⟩
  | f + 1, listed, ρ, ρ', he, h => ⟨h.1, fun i hi => by
      obtain ⟨h1, o, x, h2, h3, h4⟩ := h.2 i hi
      exact ⟨h1, o, x, h2, fun ρ2 h5 => h3 ρ2 fun t ht => (h5 t ht).trans (he t).symm, anyF_congr f _ _ _ (fun k => by rw [get_put, get_put, he k]) h4⟩⟩

theorem anyF_sound {fin : Array Bool → Env → Prop} {g m : Nat} {w0 : World} {M A0 : Foot} {Q : Exit → Act → World → Prop}
    (hfin : ∀ listed ρ a w, fin listed ρ → St w0 M A0 C.N ρ L a w → wpAnyIn (Fw C.r) m C.P md ops Q g listed a w) :
    ∀ (f : Nat) (listed : Array Bool) (ρ : Env) (a : Act) (w : World), anyF C md ops n L fin f listed ρ → St w0 M A0 C.N ρ L a w → wpAnyIn (Fw C.r) m C.P md ops Q (f + g) listed a w
  | 0, listed, ρ, a, w, ⟨ρ', h1, h⟩, hs => by rw [Nat.zero_add]; exact hfin _ _ _ _ h (st_env hs fun i A u hr => by rw [h1 i]; exact hr)
  | f + 1, listed, ρ, a, w, h, hs => by
    rw [show f + 1 + g = (f + g) + 1 by omega]
    refine ⟨fun h0 => absurd h0 h.1, fun i hi => ?_⟩
    obtain ⟨_, o, x, ho, hy, hr⟩ := h.2 i hi
    refine wpOpIn_mono ?_ (hy ρ (fun _ _ => rfl) m w0 M A0 a w Q hs)
    rintro a' w' ⟨ρ', L', ⟨e1, e2⟩, hs'⟩
    rw [e1, e2] at hs'
    exact anyF_sound hfin f _ _ a' w' hr hs'

theorem anyF_first {Inv : Array Bool → Prop} {i : Nat} {oi : Oper} {v : AV} {fin : Array Bool → Env → Prop} (hi : ops[i]? = some oi)
    (hset : ∀ listed j, Inv listed → j ∈ Region.ready md ops listed → j < n → Inv (listed.setIfInBounds j true))
    (hlt : ∀ listed, Inv listed → i ∈ Region.ready md ops listed → ∀ j ∈ Region.ready md ops listed, j < n)
    (hdone : ∀ listed ρ, fin listed ρ → ∀ j ∈ Region.ready md ops listed, n ≤ j) :
    ∀ (f : Nat) (listed : Array Bool) (ρ : Env), Inv listed →
      (∀ j oj, ops[j]? = some oj → j ≠ i → listed.getD j true = false → (∀ e ∈ oj.after, Region.binds md e = true → e.on ≠ i) → oi.apart ops oj = true) →
      i ∈ Region.ready md ops listed → Ylds C ops L i oi v ρ →
      anyF C md ops n L fin f (listed.setIfInBounds i true) (put ρ oi.dst v) → anyF C md ops n L fin (f + 1) listed ρ := by
  intro f
  induction f with
  | zero =>
    intro listed ρ inv _ hr hy H
    refine ⟨fun h => (by rw [h] at hr; cases hr), fun j hj => ?_⟩
    have hjn := hlt listed inv hr j hj
    refine ⟨hjn, ?_⟩
    by_cases hji : j = i
    · subst hji; exact ⟨oi, v, hi, hy, H⟩
    · obtain ⟨ρ', _, H⟩ := H
      have := hdone _ _ H j (ready_mono hj hji)
      omega
  | succ f ih =>
    intro listed ρ inv hfree hr hy H
    have hun := (mem_ready.1 hr).1
    refine ⟨fun h => (by rw [h] at hr; cases hr), fun j hj => ?_⟩
    have hjn := hlt listed inv hr j hj
    refine ⟨hjn, ?_⟩
    by_cases hji : j = i
    · subst hji; exact ⟨oi, v, hi, hy, H⟩
    · obtain ⟨_, oj, x, hoj, hyj, hrest⟩ := H.2 j (ready_mono hj hji)
      obtain ⟨hjun, oj', hoj', hall⟩ := mem_ready.1 hj
      rw [hoj] at hoj'; cases hoj'
      have hnot : ∀ e ∈ oj.after, Region.binds md e = true → e.on ≠ i := fun e he hb heq => by
        have h1 := hall e he hb
        rw [heq, getD_both hun] at h1
        cases h1
      obtain ⟨h1, h2, h3⟩ := Oper.apart_spec (hfree j oj hoj hji hjun hnot)
      have hfree' : ∀ k ok, ops[k]? = some ok → k ≠ i → (listed.setIfInBounds j true).getD k true = false →
          (∀ e ∈ ok.after, Region.binds md e = true → e.on ≠ i) → oi.apart ops ok = true := fun k ok hk hki hunk hno => by
        refine hfree k ok hk hki ?_ hno
        by_cases hjk : j = k
        · subst hjk; exact hjun
        · rw [getD_set_ne true hjk] at hunk; exact hunk
      have a1 : ∀ t ∈ oj.looksAt ops, get (put ρ oi.dst v) t = get ρ t := fun t ht => by
        rw [get_put, if_neg]; intro hd; exact h1 t hd ht
      have a2 : ∀ t ∈ oi.looksAt ops, get (put ρ oj.dst x) t = get ρ t := fun t ht => by
        rw [get_put, if_neg]; intro hd; exact h3 t hd ht
      have hyj' : Ylds C ops L j oj x ρ := fun ρ' he' => hyj ρ' fun t ht => by rw [he' t ht, a1 t ht]
      have hy' : Ylds C ops L i oi v (put ρ oj.dst x) := fun ρ' he' => hy ρ' fun t ht => by rw [he' t ht, a2 t ht]
      refine ⟨oj, x, hoj, hyj', ih (listed.setIfInBounds j true) _ (hset _ _ inv hj hjn) hfree' (ready_mono hr (Ne.symm hji)) hy' ?_⟩
      rw [Array.setIfInBounds_comm _ _ hji]
      refine anyF_congr _ _ _ _ (fun t => ?_) hrest
      rw [get_put, get_put, get_put, get_put]
      by_cases hd1 : oi.dst = some t
      · rw [if_pos hd1, if_neg (fun h => h2 t hd1 h), if_pos hd1]
      · rw [if_neg hd1, if_neg hd1]

/-! ### Operations that only yield a value, in the order of the text -/
theorem aval_congr {P : Program} {ρ ρ' : Env} {L : AHeap} {op : Op} (h : ∀ x ∈ op.operands, ev ρ' x = ev ρ x) : aval P ρ' L op = aval P ρ L op := by
  have hl : ∀ (l : List Operand), (∀ x ∈ l, ev ρ' x = ev ρ x) → l.map (ev ρ') = l.map (ev ρ) := fun l hl => List.map_congr_left hl
  cases op with
  | build t parts =>
    have hp : ∀ p ∈ parts.toList, ev ρ' p.2 = ev ρ p.2 := fun p hp => h p.2 (by simp only [Op.operands, List.mem_toArray, List.mem_map]; exact ⟨p, hp, rfl⟩)
    have e1 : (parts.toList.map fun p => (p.1, (fo (ev ρ' p.2)).2)) = (parts.toList.map fun p => (p.1, (fo (ev ρ p.2)).2)) := List.map_congr_left fun p hp' => by rw [hp p hp']
    have e2 : (parts.toList.map fun p => ev ρ' p.2) = (parts.toList.map fun p => ev ρ p.2) := List.map_congr_left fun p hp' => by rw [hp p hp']
    unfold aval
    simp only [e1, e2]
  | makeFunc fn first cap =>
    have hc : cap.toList.map (ev ρ') = cap.toList.map (ev ρ) := hl _ fun x hx => h x (by simp only [Op.operands, Array.mem_append]; exact .inr (by simpa using hx))
    cases fn <;> simp only [aval, hc]
  | call c =>
    obtain ⟨callee, args, argTypes⟩ := c
    cases callee with
    | builtin b =>
      have ha : ∀ x ∈ args.toList, ev ρ' x = ev ρ x := fun x hx => h x (by simp only [Op.operands, Call.operands, Array.mem_append]; exact .inr (by simpa using hx))
      unfold aval
      dsimp only
      split
      · rename_i x t _ hx _; rw [ha x (by rw [hx]; simp)]
      · rename_i x y _ hx; rw [ha x (by rw [hx]; simp), ha y (by rw [hx]; simp)]
      · rename_i x y _ hx; rw [ha x (by rw [hx]; simp), ha y (by rw [hx]; simp)]
      · rfl
    | value g => unfold aval; rfl
    | invoke r m => unfold aval; rfl
  | slice t x lo hi mx =>
    have hx := h x (by simp [Op.operands])
    have hlo : lo.map (ev ρ') = lo.map (ev ρ) := by
      cases lo with
      | none => rfl
      | some y => rw [Option.map_some, Option.map_some, h y (by simp [Op.operands])]
    have hhi : hi.map (ev ρ') = hi.map (ev ρ) := by
      cases hi with
      | none => rfl
      | some y => rw [Option.map_some, Option.map_some, h y (by simp [Op.operands])]
    have hlo2 : (lo.map fun y => (fo (ev ρ' y)).2) = (lo.map fun y => (fo (ev ρ y)).2) := by
      cases lo with
      | none => rfl
      | some y => rw [Option.map_some, Option.map_some, h y (by simp [Op.operands])]
    have hhi2 : (hi.map fun y => (fo (ev ρ' y)).2) = (hi.map fun y => (fo (ev ρ y)).2) := by
      cases hi with
      | none => rfl
      | some y => rw [Option.map_some, Option.map_some, h y (by simp [Op.operands])]
    cases mx <;> simp only [aval, hx, hlo, hhi, hlo2, hhi2]
  | move x => simp only [aval, h x (by simp [Op.operands])]
  | assign x => simp only [aval, h x (by simp [Op.operands])]
  | pick c a b => simp only [aval, h c (by simp [Op.operands]), h a (by simp [Op.operands]), h b (by simp [Op.operands])]
  | load t x => simp only [aval, h x (by simp [Op.operands])]
  | fieldAddr t x f => simp only [aval, h x (by simp [Op.operands])]
  | field t x f => simp only [aval, h x (by simp [Op.operands])]
  | indexAddr t x i => simp only [aval, h x (by simp [Op.operands]), h i (by simp [Op.operands])]
  | index t x i => simp only [aval, h x (by simp [Op.operands]), h i (by simp [Op.operands])]
  | binOp op t x y t' => simp only [aval, h x (by simp [Op.operands]), h y (by simp [Op.operands])]
  | unOp op t x => simp only [aval, h x (by simp [Op.operands])]
  | convert s d x => simp only [aval, h x (by simp [Op.operands])]
  | extract x i => simp only [aval, h x (by simp [Op.operands])]
  | nilCheck x => simp only [aval, h x (by simp [Op.operands])]
  | lookup t x i ok => simp only [aval, h x (by simp [Op.operands]), h i (by simp [Op.operands])]
  | _ => rfl

def aqv (C : Cfg) (o : Oper) (ρ : Env) (L : AHeap) (K : AV → Prop) : Prop :=
  match aval C.P ρ L o.op with
  | some (c, x) => c ∧ K x
  | none => match o.op with
    | .call c => match c.callee with
      | .value g => GCall C.P True ((fo (ev ρ g)).1 ∧ fos (c.args.toList.map (ev ρ))) (fo (ev ρ g)).2 (c.args.toList.map fun x => (fo (ev ρ x)).2) L K
      | _ => False
    | .box t x => match tinfo C.P t with
      | some ti => ((fo (ev ρ x)).1 ∧ elOk ti.size (fo (ev ρ x)).2) ∧ K (.rp ti.size [(fo (ev ρ x)).2] 0 0)
      | none => False
    | .buildSlice t len parts => match tinfo C.P t with
      | some ⟨.slice e, _, _, _⟩ => match tinfo C.P e with
        | some ei => (fos (parts.toList.map fun p => ev ρ p.2) ∧ len * ei.size ≤ 16777216 ∧ 0 < ei.size ∧ elOk ei.size ei.zero ∧ partsOk len ei.size (parts.toList.map fun p => (p.1, (fo (ev ρ p.2)).2))) ∧
            K (.sl ei.size (setAll (List.replicate len ei.zero) (parts.toList.map fun p => (p.1, (fo (ev ρ p.2)).2))))
        | none => False
      | _ => False
    | _ => False
def aq (C : Cfg) (all : List Oper) (o : Oper) (ρ : Env) (L : AHeap) (K : Env → Prop) : Prop :=
  match o.guard with
  | none => aqv C o ρ L (putQ K ρ o.dst)
  | some (j, want) => match gval all ρ j want with
    | some b => match aval C.P ρ L o.op with
      | some (c, x) => (b = want → c) ∧ K (put ρ o.dst (.cond (b == want) x))
      | none => match o.op with
        | .call c => match c.callee with
          | .value g => GCall C.P (b = want) ((fo (ev ρ g)).1 ∧ fos (c.args.toList.map (ev ρ))) (fo (ev ρ g)).2 (c.args.toList.map fun x => (fo (ev ρ x)).2) L (putQC K ρ o.dst (b == want))
          | _ => False
        | _ => False
    | none => False
def aquiet (C : Cfg) (all : List Oper) : List Oper → Env → AHeap → (Env → Prop) → Prop
  | [], ρ, _, K => K ρ
  | o :: rest, ρ, L, K => aq C all o ρ L fun ρ => aquiet C all rest ρ L K
def aquietK (C : Cfg) (all rest : List Oper) (L : AHeap) (K : Env → Prop) (ρ : Env) : Prop := aquiet C all rest ρ L K
theorem aquiet_nil (C : Cfg) (all : List Oper) (ρ : Env) (L : AHeap) (K : Env → Prop) : aquiet C all [] ρ L K = K ρ := rfl
theorem aquiet_cons (C : Cfg) (all rest : List Oper) (o : Oper) (ρ : Env) (L : AHeap) (K : Env → Prop) : aquiet C all (o :: rest) ρ L K = aq C all o ρ L (aquietK C all rest L K) := rfl
def aregD (C : Cfg) (all rest : List Oper) (L : AHeap) (K : ARes) (ρ : Env) : Prop := aregion C all rest ρ L K


theorem allocF_step {C : Cfg} {o : Oper} {ρ : Env} {L : AHeap} {x : AV} (hd : dstOk C o) (hdef : ∀ c, o.op ≠ .defer c)
    (h : ∀ (a : Act) w A, (∀ y, Rel w A (ev ρ y) (a.eval y)) → LRel w A L → ∃ ob u, (execOp a.eval o).run C.P w = .ok (.value u) (w.alloc ob) ∧ Rel (w.alloc ob) (fun b => A b ∨ b = w.heap.size) x u) :
    AOp C o ρ L fun ρ' L' => ρ' = put ρ o.dst x ∧ L' = L :=
  AOp.of_run hdef fun w0 M A0 a w A ds hs => by
    obtain ⟨ob, u, hr, hrel⟩ := h a w A hs.ev hs.l
    exact ⟨_, _, hr, .inl ⟨u, rfl, post_mk ((hs.allocF ob).put hd hrel) ⟨rfl, rfl⟩⟩⟩

theorem agree_ops {ρ ρ' : Env} {o : Oper} (h : ∀ t ∈ o.looksAt ops, get ρ' t = get ρ t) : ∀ x ∈ o.op.operands, ev ρ' x = ev ρ x := fun x hx => by
  cases x with
  | tmp t => exact h t (List.mem_append_left _ (List.mem_filterMap.2 ⟨.tmp t, by simpa using hx, rfl⟩))
  | _ => rfl
theorem agree_guard {ρ ρ' : Env} {o : Oper} {j : Nat} {want : Bool} (h : ∀ t ∈ o.looksAt ops, get ρ' t = get ρ t) (hg : o.guard = some (j, want)) : gval ops.toList ρ' j want = gval ops.toList ρ j want := by
  unfold gval
  rw [Array.getElem?_toList]
  cases hj : ops[j]? with
  | none => rfl
  | some oj =>
    dsimp only
    cases hd : oj.dst with
    | none => rfl
    | some d =>
      dsimp only
      rw [h d (by unfold Oper.looksAt; rw [hg]; simp [hj, hd])]

theorem call_congr {ρ ρ' : Env} {g : Operand} {cl : Call} (h0 : cl.callee = .value g) (hag : ∀ x ∈ (Op.call cl).operands, ev ρ' x = ev ρ x) :
    ev ρ' g = ev ρ g ∧ (cl.args.toList.map (ev ρ')) = cl.args.toList.map (ev ρ) ∧ (cl.args.toList.map fun x => (fo (ev ρ' x)).2) = cl.args.toList.map fun x => (fo (ev ρ x)).2 := by
  have h1 : ∀ x ∈ cl.args.toList, ev ρ' x = ev ρ x := fun x hx => hag x (by simp only [Op.operands, Call.operands, Array.mem_append]; exact .inr (by simpa using hx))
  exact ⟨hag g (by simp [Op.operands, Call.operands, h0]), List.map_congr_left h1, List.map_congr_left fun x hx => by rw [h1 x hx]⟩

theorem aqv_yields {o : Oper} {ρ : Env} {K : AV → Prop} (hd : dstOk C o) (hdef : ∀ c, o.op ≠ .defer c) (h : aqv C o ρ L K) :
    ∃ x, K x ∧ ∀ ρ', (∀ y ∈ o.op.operands, ev ρ' y = ev ρ y) → AOp C o ρ' L fun ρ'' L'' => ρ'' = put ρ' o.dst x ∧ L'' = L := by
  unfold aqv at h
  split at h
  · rename_i c x hv
    exact ⟨x, h.2, fun ρ' hag => aval_sound (by rw [aval_congr hag]; exact hv) h.1 hd hdef⟩
  · split at h
    · rename_i cl ho
      split at h
      · rename_i g h0
        obtain ⟨r, h1, h2⟩ := h
        refine ⟨r, h2, fun ρ' hag => ?_⟩
        rw [ho] at hag
        obtain ⟨e1, e2, e3⟩ := call_congr h0 hag
        exact call_sound ho h0 hd (by rw [e1, e2, e3]; exact ⟨(h1 trivial).1.1, (h1 trivial).1.2, (h1 trivial).2⟩)
      · exact h.elim
    · rename_i t x ho
      split at h
      · rename_i ti hti
        obtain ⟨⟨h1, h2⟩, hK⟩ := h
        refine ⟨_, hK, fun ρ' hag => ?_⟩
        rw [ho] at hag
        have hx : ev ρ' x = ev ρ x := hag x (by simp [Op.operands])
        refine allocF_step hd hdef fun a w A hρ hL => ?_
        have hx' := hρ x; rw [hx] at hx'
        have hx' := fo_ok hx' h1
        obtain ⟨E, hsz⟩ := ElemC.single hx' h2.2 h2.1
        have hB : BlkRel (w.alloc (.cells (a.eval x).cells t)) A w.heap.size (.row t ti.size [(fo (ev ρ x)).2] 1) := BlkRel.new E hL.abnd (by rw [hsz]; simp) (by simp) (by simp [maxLen])
        refine ⟨.cells (a.eval x).cells t, .pointer (some ⟨w.heap.size, 0, none⟩), ?_, ?_⟩
        · unfold execOp; rw [ho]
          simp [Instr.box, newVar, newRow]
        · have h4 := rp_of_blk hB (A' := fun b => A b ∨ b = w.heap.size) (.inr rfl) (fun _ h => .inl h) 0 0
          simpa using h4
      · exact h.elim
    · rename_i t len parts ho
      split at h
      · rename_i e _ _ _ hti
        split at h
        · rename_i ei hei
          obtain ⟨⟨h1, h2, h3, h4, h5⟩, hK⟩ := h
          refine ⟨_, hK, fun ρ' hag => ?_⟩
          rw [ho] at hag
          have hp : ∀ p ∈ parts.toList, ev ρ' p.2 = ev ρ p.2 := fun p hp => hag p.2 (by simp only [Op.operands, List.mem_toArray, List.mem_map]; exact ⟨p, hp, rfl⟩)
          refine allocF_step hd hdef fun a w A hρ hL => ?_
          obtain ⟨d2, inf2, z2, hd2, hinf2, hz2, rfl⟩ := tinfo_inv hei
          dsimp only at *
          have hu := tinfo_slice hti
          generalize hc0 : (Array.range (len * inf2.size)).map (fun i => z2.cells[i % z2.cells.size]!) = c0
          obtain ⟨E, hcs⟩ := ElemC.made (w := w) (A := A) (z := z2) rfl h4 len hc0.symm
          have hfos : fos ((parts.toList.map (·.2)).map (ev ρ')) := by
            rw [List.map_map, show (parts.toList.map (ev ρ' ∘ fun p => p.2)) = parts.toList.map fun p => ev ρ p.2 from List.map_congr_left fun p hp' => hp p hp']; exact h1
          have hh := fos_ok (w := w) (A := A) hρ (parts.toList.map (·.2)) hfos
          have e1 : (parts.toList.map fun p => (p.1, (fo (ev ρ' p.2)).2)) = (parts.toList.map fun p => (p.1, (fo (ev ρ p.2)).2)) := List.map_congr_left fun p hp' => by rw [hp p hp']
          obtain ⟨oc, hf, E', hsz, hlen⟩ := fillEl_ok (w := w) (A := A) (k := inf2.size) (parts.toList.map fun p => (p.1, (fo (ev ρ p.2)).2)) (parts.map fun p => (p.1, a.eval p.2)).toList (List.replicate len (zav z2)) c0
            (by simp [List.map_map, Function.comp_def]) (by
              rw [← e1]; simpa [List.map_map, Function.comp_def] using hh) E (by simpa using hcs) (by simpa using h5)
          simp only [List.length_replicate] at hsz hlen
          generalize setAll (List.replicate len (zav z2)) (parts.toList.map fun p => (p.1, (fo (ev ρ p.2)).2)) = xs at *
          have hml : len ≤ maxLen := by
            have : len * 1 ≤ len * inf2.size := Nat.mul_le_mul_left _ h3
            simp only [maxLen]; omega
          have hB : BlkRel (w.alloc (.cells oc e)) A w.heap.size (.row e inf2.size xs len) := BlkRel.new E' hL.abnd hsz (by omega) hml
          refine ⟨.cells oc e, .slice (some ⟨w.heap.size, 0, none⟩) len len, ?_, ?_⟩
          · unfold execOp; rw [ho]
            subst hc0
            have hr := run_buildSlice (P := C.P) (w := w) hu hinf2 hz2 h2 hf
            simp only [Sem.run_bind, hr, Result.andThen_ok]
            rfl
          · have h6 := sl_of_blk hB (A' := fun b => A b ∨ b = w.heap.size) (.inr rfl) (fun _ h => .inl h) (off := 0) (n := len) (cap' := len) (o := 0) (by omega) (Nat.le_refl _) hml (.inl (by simp))
            rwa [List.drop_zero, List.take_of_length_le (by omega)] at h6
        · exact h.elim
      · exact h.elim
    · exact h.elim

theorem aq_yields {i : Nat} {o : Oper} {ρ : Env} {K : Env → Prop} (hi : ops[i]? = some o) (hok : operOk C.N o = true) (h : aq C ops.toList o ρ L K) : ∃ x, Ylds C ops L i o x ρ ∧ K (put ρ o.dst x) := by
  have hd := operOk_dst hok
  have hdef := operOk_def hok
  unfold aq at h
  split at h
  · rename_i hg
    obtain ⟨x, hK, hy⟩ := aqv_yields hd hdef h
    exact ⟨x, fun ρ' hag => AOp.gop hi hg (hy ρ' (agree_ops hag)), hK⟩
  · rename_i j want hg
    split at h
    · rename_i b hv
      split at h
      · rename_i c x ha
        refine ⟨_, fun ρ' hag => GOp.of_cond hi hg (by rw [agree_guard hag hg]; exact hv) hd fun hb => aval_sound (by rw [aval_congr (agree_ops hag)]; exact ha) (h.1 hb) hd hdef, h.2⟩
      · split at h
        · rename_i cl ho
          split at h
          · rename_i g h0
            obtain ⟨r, h1, h2⟩ := h
            refine ⟨_, fun ρ' hag => GOp.of_cond hi hg (by rw [agree_guard hag hg]; exact hv) hd fun hb => ?_, h2⟩
            have hag' := agree_ops hag
            rw [ho] at hag'
            obtain ⟨e1, e2, e3⟩ := call_congr h0 hag'
            exact call_sound ho h0 hd (by rw [e1, e2, e3]; exact ⟨(h1 hb).1.1, (h1 hb).1.2, (h1 hb).2⟩)
          · exact h.elim
        · exact h.elim
    · exact h.elim

theorem anyF_lex {Inv : Array Bool → Prop} {g : Nat} {K : Env → Prop} {B : Nat → Nat → Array Bool → Bool} {fin : Array Bool → Bool} (hok : ops.toList.all (operOk C.N) = true)
    (hset : ∀ listed j, Inv listed → j ∈ Region.ready md ops listed → j < n → Inv (listed.setIfInBounds j true))
    (hlt : ∀ listed i, i < n → Inv listed → i ∈ Region.ready md ops listed → ∀ j ∈ Region.ready md ops listed, j < n)
    (hB0 : ∀ k listed, B 0 k listed = true → k = n → fin listed = true) (hBs : ∀ f k listed, B (f + 1) k listed = true → (Region.ready md ops listed).contains k = true ∧ Region.free md ops listed k = true ∧ B f (k + 1) (listed.setIfInBounds k true) = true)
    (hdone : ∀ listed, fin listed = true → ∀ j ∈ Region.ready md ops listed, n ≤ j) (_hg : g = 0 ∨ True) :
    ∀ (l : List Oper) (k : Nat) (listed : Array Bool) (ρ : Env), (∀ j, j < l.length → l[j]? = ops[k + j]?) → k + l.length = n → Inv listed → B l.length k listed = true → aquiet C ops.toList l ρ L K →
      anyF C md ops n L (fun listed' ρ' => fin listed' = true ∧ K ρ') l.length listed ρ
  | [], k, listed, ρ, _, hk, _, hB, h => ⟨ρ, fun _ => rfl, hB0 k listed hB (by simpa using hk), h⟩
  | o :: l, k, listed, ρ, hl, hk, inv, hB, h => by
    have h0 : ops[k]? = some o := by simpa using (hl 0 (by simp)).symm
    obtain ⟨hr, hf, hB'⟩ := hBs _ _ _ hB
    have hkn : k < n := by simp only [List.length_cons] at hk; omega
    have hr' : k ∈ Region.ready md ops listed := by simpa using hr
    have ho : operOk C.N o = true := List.all_eq_true.1 hok o (List.mem_of_getElem? (by simpa using h0))
    obtain ⟨x, hy, hK⟩ := aq_yields h0 ho h
    exact anyF_first h0 hset (fun listed hi hr => hlt listed k hkn hi hr) (fun listed' ρ' hL => hdone _ hL.1) l.length listed ρ inv (Region.free_spec h0 hf) hr' hy
      (anyF_lex hok hset hlt hB0 hBs hdone _hg l (k + 1) _ _ (fun j hj => by have := hl (j + 1) (by simp; omega); simpa [Nat.add_assoc, Nat.add_comm 1 j] using this) (by simp only [List.length_cons] at hk; omega) (hset _ _ inv hr' hkn) hB' hK)

theorem wpAnyIn_of_seq {m : Nat} {Q : Exit → Act → World → Prop} : ∀ (l : List Oper) (k : Nat) (listed : Array Bool) (a : Act) (w : World), (∀ j, l[j]? = ops[k + j]?) →
    Region.seqB md ops l.length k listed = true → wpOpsIn (Fw C.r) m C.P ops Q (List.range' k l.length) a w → wpAnyIn (Fw C.r) m C.P md ops Q l.length listed a w
  | [], _, _, _, _, _, hB, h => ⟨by simpa [Region.seqB] using hB, h⟩
  | o :: l, k, listed, a, w, hl, hB, h => by
    simp only [List.length_cons, Region.seqB, Bool.and_eq_true, decide_eq_true_eq] at hB
    refine ⟨fun h1 => (by rw [hB.1] at h1; cases h1), fun i hi => ?_⟩
    rw [hB.1] at hi
    have hik : i = k := by simpa using hi
    subst hik
    rw [List.length_cons, List.range'_succ, wpOpsIn_cons] at h
    exact wpOpIn_mono (fun a' w' h' => wpAnyIn_of_seq l (i + 1) _ a' w' (fun j => by have := hl (j + 1); simpa [Nat.add_assoc, Nat.add_comm 1 j] using this) hB.2 h') h

/-- What is asked of a drawing statement's text: its first n operations may come in any order that the edges allow, the others come behind them in order. -/
def dOk (ops : Array Oper) (n : Nat) : Bool := if n = ops.size then Region.lexB .any ops else Region.lexTailB .any ops n

theorem drawn_sound {K : ARes} {m : Nat} {w0 : World} {M A0 : Foot} {Q : Exit → Act → World → Prop} (hQ : ∀ a w, post w0 M A0 C.N K a w → Q .normal a w) (hok : ops.toList.all (operOk C.N) = true) (hB : dOk ops n = true)
    {ρ : Env} (h : aquiet C ops.toList (ops.toList.take n) ρ L fun ρ' => aregion C ops.toList (ops.toList.drop n) ρ' L K) {a : Act} {w : World} (hs : St w0 M A0 C.N ρ L a w) :
    wpAnyIn (Fw C.r) m C.P .any ops Q ops.size (Array.replicate ops.size false) a w := by
  unfold dOk at hB
  split at hB
  · rename_i hn
    simp only [Region.lexB, Bool.and_eq_true] at hB
    have htl : (ops.toList.take n).length = ops.size := by simp [hn]
    have H := anyF_lex (md := .any) (g := 0) (n := n) (Inv := fun _ => True) (B := Region.lexFrom .any ops) (fin := fun listed => (Region.ready .any ops listed).isEmpty) hok (fun _ _ _ _ _ => trivial)
      (fun listed i _ _ _ j hj => by rw [hn]; obtain ⟨_, o, ho, _⟩ := mem_ready.1 hj; exact (Array.getElem?_eq_some_iff.1 ho).1) (fun k listed h _ => h)
      (fun f k listed h => by simp only [Region.lexFrom, Bool.and_eq_true] at h; exact ⟨h.1.1, h.1.2, h.2⟩) (fun listed h j hj => by rw [List.isEmpty_iff.1 h] at hj; cases hj) (.inl rfl)
      (ops.toList.take n) 0 _ ρ (fun j hj => by simp [hn] at hj ⊢; rw [List.getElem?_take, if_pos hj]; simp) (by simp [hn]) trivial (by rw [htl]; exact hB.2) h
    have := anyF_sound (g := 0) (m := m) (Q := Q) (fun listed ρ' a' w' hf hs' => ⟨List.isEmpty_iff.1 hf.1, by
      have h2 := hf.2
      rw [List.drop_of_length_le (by simp [hn])] at h2
      exact hQ a' w' ⟨ρ', L, h2, hs'⟩⟩) _ _ _ a w H hs
    rwa [htl, Nat.add_zero] at this
  · simp only [Region.lexTailB, Bool.and_eq_true, decide_eq_true_eq] at hB
    obtain ⟨⟨⟨⟨hsel, hn⟩, hsk⟩, hc⟩, hlex⟩ := hB
    have htl : (ops.toList.take n).length = n := by simp; omega
    have hdl : (ops.toList.drop n).length = ops.size - n := by simp
    have inv0 : HeadInv .any ops n (Array.replicate ops.size false) :=
      ⟨by simp, fun j oj _ hl => (by rw [getD_replicate_false] at hl; cases hl), fun t _ ht => getD_in (by simpa using ht) (getD_replicate_false _ _)⟩
    have H := anyF_lex (md := .any) (g := 0) (n := n) (Inv := HeadInv .any ops n) (B := fun f k listed => Region.lexHead .any ops (ops.size - n) f k listed) (fin := fun listed => Region.seqB .any ops (ops.size - n) n listed) hok
      (fun listed j inv hj hjn => inv.set hj hjn)
      (fun listed i hin inv hi j hj => by
        rcases Nat.lt_or_ge j n with h | h
        · exact h
        · exact absurd hj (tail_waits hsk hc hn inv _ i rfl hin (mem_ready.1 hi).1 j h))
      (fun k listed h e => by subst e; simpa [Region.lexHead] using h) (fun f k listed h => by simp only [Region.lexHead, Bool.and_eq_true] at h; exact ⟨h.1.1, h.1.2, h.2⟩) (fun listed h => seqB_ready h) (.inl rfl)
      (ops.toList.take n) 0 _ ρ (fun j hj => by rw [htl] at hj; rw [List.getElem?_take, if_pos hj]; simp) (by rw [htl]; simp) inv0 (by rw [htl]; exact hlex) h
    have := anyF_sound (g := ops.size - n) (m := m) (Q := Q) (fun listed ρ' a' w' hf hs' => by
      have := wpAnyIn_of_seq (C := C) (md := .any) (m := m) (Q := Q) (ops.toList.drop n) n listed a' w' (fun j => by simp [List.getElem?_drop]) (by rw [hdl]; exact hf.1)
        (aregion_sound hQ hok _ n (fun j => by simp [List.getElem?_drop]) ρ' L a' w' hf.2 hs')
      rwa [hdl] at this) _ _ _ a w H hs
    rw [htl, show n + (ops.size - n) = ops.size by omega] at this
    exact this
end

/-! ### All orders of a drawing statement, as a tree -/
/-- 'step i t r': the operation i, and t behind it; or one of r. 'done': no further choice; as a whole tree: the end. -/
inductive OT where
  | done
  | step (i : Nat) (t r : OT)
def OT.alts : OT → List Nat
  | .done => []
  | .step i _ r => i :: r.alts
def OT.isDone : OT → Bool
  | .done => true
  | _ => false
def OT.ok (ops : Array Oper) : OT → Nat → Array Bool → Bool
  | .done, _, _ => true
  | .step _ _ _, 0, _ => false
  | .step i t r, f + 1, listed => (t.alts == Region.ready .any ops (listed.setIfInBounds i true)) && t.ok ops f (listed.setIfInBounds i true) && r.ok ops (f + 1) listed
def OT.all (ops : Array Oper) (T : OT) : Bool := !T.isDone && (T.alts == Region.ready .any ops (Array.replicate ops.size false)) && T.ok ops ops.size (Array.replicate ops.size false)
def OT.ap (C : Cfg) (all : List Oper) (K : ARes) : OT → Env → AHeap → Prop
  | .done, _, _ => True
  | .step i t r, ρ, L => (match all[i]? with | some o => astep C all o ρ L (fun ρ L => if t.isDone then K ρ L else OT.ap C all K t ρ L) | none => False) ∧ OT.ap C all K r ρ L
def OT.nx (C : Cfg) (all : List Oper) (K : ARes) (t : OT) (ρ : Env) (L : AHeap) : Prop := if t.isDone then K ρ L else OT.ap C all K t ρ L
theorem OT.ap_done (C : Cfg) (all : List Oper) (K : ARes) (ρ : Env) (L : AHeap) : OT.ap C all K .done ρ L = True := rfl
theorem OT.ap_step (C : Cfg) (all : List Oper) (K : ARes) (i : Nat) (t r : OT) (ρ : Env) (L : AHeap) :
    OT.ap C all K (.step i t r) ρ L = ((match all[i]? with | some o => astep C all o ρ L (OT.nx C all K t) | none => False) ∧ OT.ap C all K r ρ L) := rfl
theorem OT.nx_done (C : Cfg) (all : List Oper) (K : ARes) (ρ : Env) (L : AHeap) : OT.nx C all K .done ρ L = K ρ L := rfl
theorem OT.nx_step (C : Cfg) (all : List Oper) (K : ARes) (i : Nat) (t r : OT) (ρ : Env) (L : AHeap) : OT.nx C all K (.step i t r) ρ L = OT.ap C all K (.step i t r) ρ L := rfl

theorem OT.sound {C : Cfg} {ops : Array Oper} {K : ARes} {n : Nat} {w0 : World} {M A0 : Foot} {Q : Exit → Act → World → Prop} (hQ : ∀ a w, post w0 M A0 C.N K a w → Q .normal a w) (hok : ops.toList.all (operOk C.N) = true) :
    ∀ (T : OT) (f : Nat) (listed : Array Bool) (ρ : Env) (L : AHeap) (a : Act) (w : World), T.ok ops (f + 1) listed = true → T.ap C ops.toList K ρ L → St w0 M A0 C.N ρ L a w →
      ∀ j ∈ T.alts, wpOpIn (Fw C.r) n C.P ops Q j (wpAnyIn (Fw C.r) n C.P .any ops Q f (listed.setIfInBounds j true)) a w
  | .done, _, _, _, _, _, _, _, _, _ => fun j hj => by cases hj
  | .step i t r, f, listed, ρ, L, a, w, h1, h2, hs => fun j hj => by
    simp only [OT.ok, Bool.and_eq_true, beq_iff_eq] at h1
    obtain ⟨⟨ha, ht⟩, hr⟩ := h1
    rw [OT.ap_step] at h2
    rcases List.mem_cons.1 hj with rfl | hj
    · cases h0 : ops.toList[j]? with
      | none => rw [h0] at h2; exact h2.1.elim
      | some o =>
        rw [h0] at h2
        have h0' : ops[j]? = some o := by simpa using h0
        refine wpOpIn_mono ?_ (astep_sound h0' (List.all_eq_true.1 hok o (List.mem_of_getElem? h0)) h2.1 n w0 M A0 a w Q hs)
        rintro a' w' ⟨ρ', L', hn, hs'⟩
        cases t with
        | done =>
          have hq := hQ a' w' ⟨ρ', L', hn, hs'⟩
          have he : Region.ready .any ops (listed.setIfInBounds j true) = [] := ha.symm
          cases f with
          | zero => exact ⟨he, hq⟩
          | succ f => exact ⟨fun _ => hq, fun k hk => by rw [he] at hk; cases hk⟩
        | step i' t' r' =>
          cases f with
          | zero => cases ht
          | succ f =>
            refine ⟨fun he => ?_, fun k hk => ?_⟩
            · rw [he] at ha; cases ha
            · rw [← ha] at hk
              exact OT.sound hQ hok (.step i' t' r') f _ ρ' L' a' w' ht hn hs' k hk
    · exact OT.sound hQ hok r f listed ρ L a w hr h2.2 hs j hj
theorem OT.top {C : Cfg} {ops : Array Oper} {K : ARes} {n : Nat} {w0 : World} {M A0 : Foot} {Q : Exit → Act → World → Prop} (hQ : ∀ a w, post w0 M A0 C.N K a w → Q .normal a w) (hok : ops.toList.all (operOk C.N) = true) (T : OT) (hT : T.all ops = true)
    {ρ : Env} {L : AHeap} {a : Act} {w : World} (h : T.ap C ops.toList K ρ L) (hs : St w0 M A0 C.N ρ L a w) : wpAnyIn (Fw C.r) n C.P .any ops Q ops.size (Array.replicate ops.size false) a w := by
  simp only [OT.all, Bool.and_eq_true, Bool.not_eq_true', beq_iff_eq] at hT
  obtain ⟨⟨h1, h2⟩, h3⟩ := hT
  cases T with
  | done => cases h1
  | step i t r =>
    generalize hf : ops.size = f at *
    cases f with
    | zero => cases h3
    | succ f =>
      refine ⟨fun he => ?_, fun k hk => ?_⟩
      · rw [he] at h2; cases h2
      · rw [← h2] at hk
        exact OT.sound hQ hok _ f _ ρ L a w h3 h hs k hk
end Go.AL
