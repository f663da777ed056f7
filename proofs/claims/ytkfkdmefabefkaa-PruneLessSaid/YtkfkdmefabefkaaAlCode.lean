/- The layer AL, part 12: code: what is asked of a piece of code, rule by rule; loops; functions. No condition. -/
import Derived.Test.YtkfkdmefabefkaaAlDraw
namespace Go.AL
open Go Go.RowKit

def codeOk (N : Nat) : Code → Bool
  | .region _ ops _ => ops.toList.all (operOk N)
  | .seq a b => codeOk N a && codeOk N b
  | .cond _ a b => codeOk N a && codeOk N b
  | .block _ c => codeOk N c
  | .loop c => codeOk N c
  | .scope c => codeOk N c
  | .rangeFunc _ ps a b => ps.toList.all (fun p => decide (p < N)) && codeOk N a && codeOk N b
  | _ => true

abbrev AQ := Exit → Env → AHeap → Prop
def cq (C : Cfg) (w0 : World) (M A0 : Foot) (Q : AQ) : Exit → Act → World → Prop := fun e a w => ∃ ρ L, Q e ρ L ∧ St w0 M A0 C.N ρ L a w
def AWp (C : Cfg) (c : Code) (Q : AQ) (ρ : Env) (L : AHeap) : Prop :=
  codeOk C.N c = true → ∀ n w0 M A0 a w, St w0 M A0 C.N ρ L a w → c.wpIn (Fw C.r) n C.P (cq C w0 M A0 Q) a w

def thenQ (next : ARes) (Q : AQ) : AQ
  | .normal, ρ, L => next ρ L
  | e, ρ, L => Q e ρ L
def blockQ (id : Nat) (Q : AQ) : AQ
  | .exit id', ρ, L => if id' = id then Q .normal ρ L else Q (.exit id') ρ L
  | e, ρ, L => Q e ρ L
def noGotoQ (Q : AQ) : AQ
  | .goto _, _, _ => False
  | e, ρ, L => Q e ρ L

section
variable {C : Cfg} {Q : AQ} {ρ : Env} {L : AHeap}

theorem AWp.mono {c : Code} {Q' : AQ} (h : AWp C c Q ρ L) (hq : ∀ e ρ L, Q e ρ L → Q' e ρ L) : AWp C c Q' ρ L :=
  fun hok n w0 M A0 a w hs => wpIn_mono (h hok n w0 M A0 a w hs) fun _ _ _ ⟨ρ', L', h1, h2⟩ => ⟨ρ', L', hq _ _ _ h1, h2⟩
/-- The state may be told otherwise. -/
theorem AWp.st {c : Code} {ρ' : Env} {L' : AHeap} (hst : ∀ w0 M A0 a w, St w0 M A0 C.N ρ L a w → St w0 M A0 C.N ρ' L' a w) (h : AWp C c Q ρ' L') : AWp C c Q ρ L :=
  fun hok n w0 M A0 a w hs => h hok n w0 M A0 a w (hst _ _ _ _ _ hs)

theorem AWp.seq {a b : Code} (h : AWp C a (thenQ (AWp C b Q) Q) ρ L) : AWp C (.seq a b) Q ρ L := fun hok n w0 M A0 x w hs => by
  simp only [codeOk, Bool.and_eq_true] at hok
  refine wpIn_seq (wpIn_mono (h hok.1 n w0 M A0 x w hs) ?_)
  rintro e a' w' ⟨ρ', L', h1, h2⟩
  cases e with
  | normal => exact h1 hok.2 n w0 M A0 a' w' h2
  | _ => exact ⟨ρ', L', h1, h2⟩
theorem AWp.cond {c : Operand} {x y : Code} {t : Bool} (hc : ev ρ c = .v (.bool t)) (h1 : t = true → AWp C x Q ρ L) (h2 : t = false → AWp C y Q ρ L) : AWp C (.cond c x y) Q ρ L := fun hok n w0 M A0 a w hs => by
  simp only [codeOk, Bool.and_eq_true] at hok
  obtain ⟨A, ds, hs'⟩ := st_iff.1 hs
  have hv := hs'.ev c
  rw [hc] at hv
  exact wpIn_cond_split hv.inv_v (fun ht => h1 ht hok.1 n w0 M A0 a w hs) (fun ht => h2 ht hok.2 n w0 M A0 a w hs)
theorem AWp.block {id : Nat} {c : Code} (h : AWp C c (blockQ id Q) ρ L) : AWp C (.block id c) Q ρ L := fun hok n w0 M A0 a w hs => by
  refine wpIn_block (wpIn_mono (h hok n w0 M A0 a w hs) ?_)
  rintro e a' w' ⟨ρ', L', h1, h2⟩
  cases e with
  | exit id' =>
    simp only [blockQ] at h1
    simp only [Exit.inBlock]
    split at h1
    · rename_i e; rw [if_pos e]; exact ⟨ρ', L', h1, h2⟩
    · rename_i e; rw [if_neg e]; exact ⟨ρ', L', h1, h2⟩
  | _ => exact ⟨ρ', L', h1, h2⟩
theorem AWp.region {id : Nat} {ops : Array Oper} (h : aregion C ops.toList ops.toList ρ L (Q .normal)) : AWp C (.region id ops false) Q ρ L := fun hok n w0 M A0 a w hs => by
  refine wpIn_region ?_
  have := aregion_sound (C := C) (ops := ops) (K := Q .normal) (n := n) (Q := cq C w0 M A0 Q) (fun a w ⟨ρ', L', h1, h2⟩ => ⟨ρ', L', h1, h2⟩) hok ops.toList 0 (by simp) ρ L a w h hs
  rwa [Array.length_toList, ← List.range_eq_range'] at this
theorem AWp.drawn {id : Nat} {ops : Array Oper} (hm : C.P.follows .mixedOrders = true) (m : Nat) (hB : dOk ops m = true)
    (h : aquiet C ops.toList (ops.toList.take m) ρ L (aregD C ops.toList (ops.toList.drop m) L (Q .normal))) : AWp C (.region id ops true) Q ρ L := fun hok n w0 M A0 a w hs => by
  refine wpIn_region_any hm ?_
  obtain ⟨A, ds, hs'⟩ := st_iff.1 hs
  exact drawn_sound (C := C) (ops := ops) (K := Q .normal) (fun a w ⟨ρ', L', h1, h2⟩ => ⟨ρ', L', h1, h2⟩) hok hB h (st_iff.2 ⟨A, ds, hs'.drew⟩)

theorem AWp.drawnT {id : Nat} {ops : Array Oper} (hm : C.P.follows .mixedOrders = true) (T : OT) (hT : T.all ops = true) (h : T.ap C ops.toList (Q .normal) ρ L) : AWp C (.region id ops true) Q ρ L := fun hok n w0 M A0 a w hs => by
  refine wpIn_region_any hm ?_
  obtain ⟨A, ds, hs'⟩ := st_iff.1 hs
  exact OT.top (C := C) (ops := ops) (K := Q .normal) (fun a w ⟨ρ', L', h1, h2⟩ => ⟨ρ', L', h1, h2⟩) hok T hT h (st_iff.2 ⟨A, ds, hs'.drew⟩)

theorem stepR_scope {P : Program} {b : Frame} {a : Act} {k : List Item} {cs : List Frame} {w : World} {c : Code} : step P (lone (b.atR a (.code (.scope c) :: k)) cs w) = .next (lone (b.atR a (.code c :: .inScope c :: k)) cs w) :=
  step_lone_go (by simp [stepG, stepG.exec, Frame.atR])
theorem stepR_inScope {P : Program} {b : Frame} {a : Act} {k : List Item} {cs : List Frame} {w : World} {c : Code} : step P (lone (b.atR a (.inScope c :: k)) cs w) = .next (lone (b.atR a k) cs w) :=
  step_lone_go (by simp [stepG, stepG.exec, Frame.atR])
theorem AWp.scope {c : Code} (h : AWp C c (noGotoQ Q) ρ L) : AWp C (.scope c) Q ρ L := fun hok n w0 M A0 a w hs => by
  intro b k cs hro hb hr
  obtain ⟨e, a₁, w₁, ⟨ρ', L', hq, hs'⟩, harr⟩ := h hok n w0 M A0 a w hs b (.inScope c :: k) cs hro hb hr
  have h0 : (lone (b.atR a (.code (.scope c) :: k)) cs w).fenced C.P (Fw C.r) := fenced_calm hb hr rfl
  cases e with
  | normal => exact ⟨.normal, a₁, w₁, ⟨ρ', L', hq, hs'⟩, .head h0 stepR_scope (StepsIn.trans harr (.one (fenced_calm (fr := b.atR a₁ (.inScope c :: k)) hb hr rfl) stepR_inScope))⟩
  | exit id =>
    refine ⟨.exit id, a₁, w₁, ⟨ρ', L', hq, hs'⟩, fun k' hk => .head h0 stepR_scope (harr.1 k' (by simp [exitTo, hk])), fun hr' hk => ?_⟩
    obtain ⟨k₁, hk1, hs1⟩ := harr.2 hr' (by simp [exitTo, hk])
    exact ⟨k₁, hk1, .head h0 stepR_scope hs1⟩
  | goto l => exact hq.elim
  | ret => exact ⟨_, a₁, w₁, ⟨ρ', L', hq, hs'⟩, .of_steps (.one h0 stepR_scope) harr⟩
  | panic ch => exact ⟨_, a₁, w₁, ⟨ρ', L', hq, hs'⟩, .of_steps (.one h0 stepR_scope) harr⟩
  | outgrown => exact ⟨_, a₁, w₁, ⟨ρ', L', hq, hs'⟩, .of_steps (b := b) (k := k) (cs := cs) (e := .outgrown) (.one h0 stepR_scope) harr⟩

end

/-- One stretch of code: a statement at a time; what comes behind a statement is left as it stands. -/
def awp1 (C : Cfg) : Code → AQ → Env → AHeap → Prop
  | .skip, Q, ρ, L => Q .normal ρ L
  | .label _, Q, ρ, L => Q .normal ρ L
  | .region _ ops false, Q, ρ, L => aregion C ops.toList ops.toList ρ L (Q .normal)
  | .seq a b, Q, ρ, L => awp1 C a (thenQ (AWp C b Q) Q) ρ L
  | .cond c x y, Q, ρ, L => match ev ρ c with
    | .v (.bool t) => (t = true → awp1 C x Q ρ L) ∧ (t = false → awp1 C y Q ρ L)
    | _ => False
  | .block id c, Q, ρ, L => awp1 C c (blockQ id Q) ρ L
  | .exit id, Q, ρ, L => Q (.exit id) ρ L
  | .ret, Q, ρ, L => Q .ret ρ L
  | .goto l, Q, ρ, L => Q (.goto l) ρ L
  | .scope c, Q, ρ, L => awp1 C c (noGotoQ Q) ρ L
  | c, Q, ρ, L => AWp C c Q ρ L

theorem AWp.of {C : Cfg} : ∀ {c : Code} {Q : AQ} {ρ : Env} {L : AHeap}, awp1 C c Q ρ L → AWp C c Q ρ L
  | .skip, Q, ρ, L, h => fun _ n w0 M A0 a w hs => wpIn_skip ⟨ρ, L, h, hs⟩
  | .label _, Q, ρ, L, h => fun _ n w0 M A0 a w hs => wpIn_label ⟨ρ, L, h, hs⟩
  | .region _ ops false, Q, ρ, L, h => AWp.region h
  | .region _ ops true, Q, ρ, L, h => h
  | .seq a b, Q, ρ, L, h => AWp.seq (AWp.of (c := a) h)
  | .cond c x y, Q, ρ, L, h => by
    unfold awp1 at h
    split at h
    · rename_i t hc; exact AWp.cond hc (fun ht => AWp.of (c := x) (h.1 ht)) (fun ht => AWp.of (c := y) (h.2 ht))
    · exact h.elim
  | .block id c, Q, ρ, L, h => AWp.block (AWp.of (c := c) h)
  | .exit id, Q, ρ, L, h => fun _ n w0 M A0 a w hs => wpIn_exit ⟨ρ, L, h, hs⟩
  | .ret, Q, ρ, L, h => fun _ n w0 M A0 a w hs => wpIn_ret ⟨ρ, L, h, hs⟩
  | .goto l, Q, ρ, L, h => fun _ n w0 M A0 a w hs => wpIn_goto ⟨ρ, L, h, hs⟩
  | .scope c, Q, ρ, L, h => AWp.scope (AWp.of (c := c) h)
  | .loop c, Q, ρ, L, h => h
  | .rangeFunc _ _ _ _, Q, ρ, L, h => h
  | .refuse _, Q, ρ, L, h => h

/-- The first statement has no loop, and draws no order. -/
def calm1 : Code → Bool
  | .region _ _ d => !d
  | .seq a _ => calm1 a
  | .cond _ _ _ => true
  | .block _ c => calm1 c
  | .scope c => calm1 c
  | .loop _ => false
  | .rangeFunc _ _ _ _ => false
  | _ => true
theorem AWp.ofC {C : Cfg} {c : Code} {Q : AQ} {ρ : Env} {L : AHeap} (_h : calm1 c = true) (h : awp1 C c Q ρ L) : AWp C c Q ρ L := AWp.of h

/-! ### Telling the state otherwise -/
theorem st_sub {w0 : World} {M A0 : Foot} {N : Nat} {ρ : Env} {L L' : AHeap} {a : Act} {w : World} (h : St w0 M A0 N ρ L a w) (hs : L'.Sublist L) : St w0 M A0 N ρ L' a w := by
  obtain ⟨A, ds, h⟩ := st_iff.1 h
  exact st_iff.2 ⟨A, ds, h.sub hs⟩
/-- Slots forgotten. -/
theorem st_forget {w0 : World} {M A0 : Foot} {N : Nat} {ρ ρ' : Env} {L : AHeap} {a : Act} {w : World} (h : St w0 M A0 N ρ L a w) (hs : ∀ i, get ρ' i = .any ∨ get ρ' i = get ρ i) : St w0 M A0 N ρ' L a w :=
  st_env h fun i A u hr => by
    rcases hs i with e | e
    · rw [e]; exact .any _
    · rw [e]; exact hr

/-- An environment that knows the slots ks alone. -/
def keep (ks : List Nat) (ρ : Env) : Env := ks.map fun k => (k, get ρ k)
theorem get_keep (ks : List Nat) (ρ : Env) (i : Nat) : get (keep ks ρ) i = .any ∨ get (keep ks ρ) i = get ρ i := by
  induction ks with
  | nil => exact .inl rfl
  | cons k ks ih =>
    simp only [keep, List.map_cons, get]
    split
    · rename_i e; subst e; exact .inr rfl
    · exact ih
theorem get_append (ρ1 ρ2 : Env) (i : Nat) : get (ρ1 ++ ρ2) i = if i ∈ ρ1.map (·.1) then get ρ1 i else get ρ2 i := by
  induction ρ1 with
  | nil => simp
  | cons p r ih =>
    obtain ⟨j, x⟩ := p
    simp only [List.cons_append, get, List.map_cons, List.mem_cons]
    by_cases h : i = j
    · simp [h]
    · rw [if_neg h, ih]; simp only [h, false_or, if_false]

/-! ### Loops -/
/-- The end of a round: what the loop carries stands as the relation says, what it keeps is kept. -/
def roundQ (ls ks : List Nat) (ρ0 : Env) (J : List AV → AHeap → Prop) (Q : AQ) : AQ
  | .normal, ρ, L => ks.map (get ρ) = ks.map (get ρ0) ∧ ∃ L', L'.Sublist L ∧ J (ls.map (get ρ)) L'
  | e, ρ, L => Q e ρ L
def lenv (ls ks : List Nat) (vs : List AV) (ρ0 : Env) : Env := keep ks ρ0 ++ ls.zip vs

theorem get_zip (ls : List Nat) (ρ : Env) (i : Nat) : get (ls.zip (ls.map (get ρ))) i = .any ∨ get (ls.zip (ls.map (get ρ))) i = get ρ i := by
  induction ls with
  | nil => exact .inl rfl
  | cons k ks ih =>
    simp only [List.map_cons, List.zip_cons_cons, get]
    split
    · rename_i e; subst e; exact .inr rfl
    · exact ih
theorem get_lenv (ls ks : List Nat) (ρ ρ0 : Env) (h : ks.map (get ρ) = ks.map (get ρ0)) (i : Nat) : get (lenv ls ks (ls.map (get ρ)) ρ0) i = .any ∨ get (lenv ls ks (ls.map (get ρ)) ρ0) i = get ρ i := by
  have hk : keep ks ρ0 = keep ks ρ := by
    unfold keep
    induction ks with
    | nil => rfl
    | cons k ks ih => simp only [List.map_cons, List.cons.injEq] at h ⊢; exact ⟨by rw [h.1], ih h.2⟩
  unfold lenv
  rw [hk, get_append]
  split
  · exact get_keep ks ρ i
  · exact get_zip ls ρ i

theorem least {p : Nat → Prop} (h : ∃ m, p m) : ∃ m, p m ∧ ∀ k, p k → m ≤ k := by
  obtain ⟨m, hm⟩ := h
  induction m using Nat.strongRecOn with
  | _ m ih =>
    by_cases h : ∃ k, k < m ∧ p k
    · obtain ⟨k, hk, hp⟩ := h; exact ih k hk hp
    · exact ⟨m, hm, fun k hk => Nat.le_of_not_lt fun hlt => h ⟨k, hlt, hk⟩⟩

theorem AWp.loop {C : Cfg} {c : Code} {Q : AQ} {ρ : Env} {L : AHeap} (ls ks : List Nat) (I : List AV → AHeap → Prop) (μ : List AV → AHeap → Nat) (h0 : I (ls.map (get ρ)) L)
    (round : ∀ vs L', vs.length = ls.length → I vs L' → AWp C c (roundQ ls ks ρ (fun vs' L'' => I vs' L'' ∧ μ vs' L'' < μ vs L') Q) (lenv ls ks vs ρ) L') : AWp C (.loop c) Q ρ L := by
  intro hok n w0 M A0 a w hs
  let W : Act → World → Nat → Prop := fun a w m => ∃ vs L', vs.length = ls.length ∧ I vs L' ∧ St w0 M A0 C.N (lenv ls ks vs ρ) L' a w ∧ μ vs L' = m
  open Classical in
  let μ' : Act → World → Nat := fun a w => if h : ∃ m, W a w m then Classical.choose (least h) else 0
  refine wpIn_loop (fun a w => ∃ m, W a w m) μ' ⟨_, _, _, by simp, h0, st_forget hs (get_lenv ls ks ρ ρ rfl), rfl⟩ ?_
  rintro a w hI
  have hμ : μ' a w = Classical.choose (least hI) := dif_pos hI
  obtain ⟨vs, L', hl, hi, hs', hm⟩ := (Classical.choose_spec (least hI)).1
  refine wpIn_mono (round vs L' hl hi hok n w0 M A0 a w hs') ?_
  rintro e a' w' ⟨ρ', L'', h1, h2⟩
  cases e with
  | normal =>
    obtain ⟨hk, L3, hsub, hI3, hlt⟩ := h1
    have hW : W a' w' (μ (ls.map (get ρ')) L3) := ⟨_, L3, by simp, hI3, st_sub (st_forget h2 (get_lenv ls ks ρ' ρ hk)) hsub, rfl⟩
    refine ⟨⟨_, hW⟩, ?_⟩
    have h3 : μ' a' w' = Classical.choose (least ⟨_, hW⟩) := dif_pos ⟨_, hW⟩
    rw [h3, hμ, ← hm]
    exact Nat.lt_of_le_of_lt ((Classical.choose_spec (least ⟨_, hW⟩)).2 _ hW) hlt
  | _ => exact ⟨ρ', L'', h1, h2⟩


/-- The end of a round of 'for i := 0; i < m; i++', as a range is translated. -/
def rangeQ (id s k : Nat) (ls ks : List Nat) (ρ0 : Env) (J : List AV → AHeap → Prop) (Q : AQ) : AQ
  | .normal, ρ, L => get ρ s = ai k ∧ ks.map (get ρ) = ks.map (get ρ0) ∧ ∃ L', L'.Sublist L ∧ J (ls.map (get ρ)) L'
  | .exit id', ρ, L => if id' = id then Q .normal ρ L else Q (.exit id') ρ L
  | e, ρ, L => Q e ρ L

theorem AWp.range {C : Cfg} {id i1 i2 t s n t2 : Nat} {ty1 ty2 ty3 ty4 r1 r2 r3 : TypeId} {p1 p2 p3 : String} {a1 a2 a3 : Array Edge} {body : Code} {Q : AQ} {ρ : Env} {L : AHeap}
    (m : Nat) (ls ks : List Nat) (I : Nat → List AV → AHeap → Prop) (hm : m ≤ 9223372036854775806) (hs : get ρ s = ai 0) (hn : get ρ n = ai m) (hnk : n ∈ ks) (hsk : s ∉ ks) (hsl : s ∉ ls) (hts : t ≠ s) (htk : t ∉ ks) (h2k : t2 ∉ ks) (htl : t ∉ ls) (h2l : t2 ∉ ls)
    (h0 : I 0 (ls.map (get ρ)) L)
    (round : ∀ k vs L', k < m → vs.length = ls.length → I k vs L' → AWp C body (rangeQ id s k ls ks ρ (I (k + 1)) Q) ((s, ai k) :: lenv ls ks vs ρ) L')
    (done : ∀ vs L', vs.length = ls.length → I m vs L' → Q .normal ((s, ai m) :: lenv ls ks vs ρ) L') :
    AWp C (.block id (.loop (.seq (.region i1 #[⟨some t, .binOp .lss ty1 (.tmp s) (.tmp n) ty2, r1, p1, a1, none⟩] false) (.seq (.cond (.tmp t) .skip (.exit id)) (.seq body
      (.region i2 #[⟨some t2, .binOp .add ty3 (.tmp s) (.const (.int .i64 1)) ty4, r2, p2, a2, none⟩, ⟨some s, .move (.tmp t2), r3, p3, a3, none⟩] false)))))) Q ρ L := by
  have hnl : ∀ vs : List AV, vs.length = ls.length → get (lenv ls ks vs ρ) n = ai m := fun vs _ => by
    unfold lenv
    have hin : n ∈ (keep ks ρ).map (·.1) := by simp [keep, hnk]
    rw [get_append, if_pos hin]
    rcases get_keep ks ρ n with e | e
    · have : ∀ l : List Nat, n ∈ l → get (keep l ρ) n = get ρ n := fun l => by
        induction l with
        | nil => intro h; cases h
        | cons x r ih =>
          intro h
          simp only [keep, List.map_cons, get]
          split
          · rename_i e; rw [e]
          · rename_i e; exact ih ((List.mem_cons.1 h).resolve_left e)
      rw [this ks hnk, hn]
    · rw [e, hn]
  have hns : n ≠ s := fun e => hsk (e ▸ hnk)
  have dropT : ∀ (k : Nat) (vs : List AV) (x : AV) (i : Nat), get ((s, ai k) :: lenv ls ks vs ρ) i = .any ∨ get ((s, ai k) :: lenv ls ks vs ρ) i = get ((t, x) :: (s, ai k) :: lenv ls ks vs ρ) i := fun k vs x i => by
    by_cases hi : i = t
    · subst hi
      refine .inl ?_
      simp only [get, if_neg hts, lenv]
      rw [get_append, if_neg (by simp [keep, htk])]
      have : ∀ (l : List Nat) (v : List AV), i ∉ l → get (l.zip v) i = .any := fun l => by
        induction l with
        | nil => intro v _; rfl
        | cons x r ih =>
          intro v h
          cases v with
          | nil => rfl
          | cons y v =>
            simp only [List.zip_cons_cons, get]
            rw [if_neg (by rintro rfl; exact h List.mem_cons_self)]
            exact ih v (fun hh => h (List.mem_cons_of_mem _ hh))
      exact this ls vs htl
    · exact .inr (by simp [get, hi])
  refine AWp.block (AWp.loop (s :: ls) ks (fun vs' L' => ∃ (k : Nat) (vs : List AV), vs' = ai (k : Int) :: vs ∧ k ≤ m ∧ I k vs L') (fun vs' _ => match vs' with | .v (.int _ k) :: _ => m - k.toNat | _ => 0)
    ⟨0, _, by simp [hs], Nat.zero_le _, h0⟩ ?_)
  rintro vs' L' hl ⟨k, vs, rfl, hk, hI⟩
  have hvl : vs.length = ls.length := by simpa using hl
  -- the counter first
  refine AWp.st (ρ' := (s, ai k) :: lenv ls ks vs ρ) (L' := L') (fun w0 M A0 a w h => st_forget h fun i => ?_) ?_
  · by_cases hi : i = s
    · subst hi
      refine .inr ?_
      simp only [get, if_true, lenv]
      rw [get_append, if_neg (by simp [keep, hsk])]
      simp [get]
    · refine .inr ?_
      simp only [get, if_neg hi, lenv, List.zip_cons_cons]
      rw [get_append, get_append]
      split
      · rfl
      · simp [get, hi]
  have hget_s : get ((s, ai k) :: lenv ls ks vs ρ) s = ai k := by simp [get]
  have hget_n : get ((s, ai k) :: lenv ls ks vs ρ) n = ai m := by simp only [get, if_neg hns]; exact hnl vs hvl
  refine AWp.seq (AWp.region ?_)
  simp only [aregion, astep, aop, aval, ev, hget_s, hget_n, w2, fo, aEq, aBin, thenQ, put]
  refine ⟨by simp, ?_⟩
  refine AWp.seq (AWp.cond (t := decide ((k : Int) < m)) (by simp [ev, get]) (fun ht => ?_) (fun hf => ?_))
  · have hlt : k < m := by simpa using ht
    refine AWp.of ?_
    simp only [awp1, thenQ]
    refine AWp.st (ρ' := (s, ai k) :: lenv ls ks vs ρ) (L' := L') (fun w0 M A0 a w h => st_forget h (dropT k vs _)) ?_
    refine AWp.seq ((round k vs L' hlt hvl hI).mono ?_)
    intro e ρ' L'' hq
    cases e with
    | normal =>
      obtain ⟨g1, g2, L3, g3, g4⟩ := hq
      simp only [thenQ]
      refine AWp.region ?_
      have hi64 : I64 ((k : Int) + 1) := by unfold I64; omega
      simp only [aregion, astep, aop, aval, ev, g1, w2, fo, aEq, aBin, put, if_true, get]
      refine ⟨⟨⟨trivial, trivial⟩, trivial, hi64⟩, trivial, ?_⟩
      simp only [roundQ]
      have hks : ks.map (get ((s, ai ((k : Int) + 1)) :: (t2, ai ((k : Int) + 1)) :: ρ')) = ks.map (get ρ') := List.map_congr_left fun j hj => by
        simp only [get]; rw [if_neg (by rintro rfl; exact hsk hj), if_neg (by rintro rfl; exact h2k hj)]
      have hls : ls.map (get ((s, ai ((k : Int) + 1)) :: (t2, ai ((k : Int) + 1)) :: ρ')) = ls.map (get ρ') := List.map_congr_left fun j hj => by
        simp only [get]; rw [if_neg (by rintro rfl; exact hsl hj), if_neg (by rintro rfl; exact h2l hj)]
      refine ⟨by rw [hks]; exact g2, L3, g3, ⟨k + 1, _, ?_, hlt, g4⟩, ?_⟩
      · rw [List.map_cons, hls]
        simp only [get, if_true]
        rfl
      · simp only [List.map_cons, get, if_true]
        have : ((k : Int) + 1).toNat = k + 1 := by omega
        simp only [this, Int.toNat_natCast]
        omega
    | exit id' => simpa [thenQ, roundQ, blockQ, rangeQ] using hq
    | goto l => exact hq
    | ret => exact hq
    | panic c => exact hq
    | outgrown => exact hq
  · have hkm : k = m := by have : ¬ ((k : Int) < m) := by simpa using hf
                           omega
    subst hkm
    refine AWp.st (ρ' := (s, ai k) :: lenv ls ks vs ρ) (L' := L') (fun w0 M A0 a w h => st_forget h (dropT k vs _)) (AWp.of ?_)
    simp only [awp1, thenQ, roundQ, blockQ, if_true]
    exact done vs L' hvl hI
end Go.AL
