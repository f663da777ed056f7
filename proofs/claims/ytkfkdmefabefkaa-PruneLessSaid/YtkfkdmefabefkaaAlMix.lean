/- The layer AL, part 19: statements that draw their order, where some operations only yield values that no memory of ours decides, and the others come in a few orders. No condition. -/
import Derived.Test.YtkfkdmefabefkaaAlRange
namespace Go.AL
open Go Go.RowKit

/-! ### An operation looks at its operands alone -/
def tOp (o : Oper) : Bool :=
  match o.op with
  | .alloc _ => true
  | .box _ _ => true
  | .buildSlice _ _ _ => true
  | .store _ _ _ => true
  | .makeSlice _ _ _ => true
  | .makeMap _ none => true
  | .mapUpdate _ _ _ _ => true
  | .call c => match c.callee, c.args.toList, c.argTypes.toList with
    | .builtin .append, [_, _], [_, _] => true
    | .builtin .copy, [_, _], [_, _] => true
    | .value _, _, _ => true
    | _, _, _ => false
  | _ => false
def aopX (C : Cfg) (o : Oper) (ρ : Env) (L : AHeap) (K : ARes) : Prop :=
  match aval C.P ρ L o.op with
  | some (c, x) => c ∧ K (put ρ o.dst x) L
  | none => if tOp o then aop2 C o ρ L K else False
theorem aopX_aop {C : Cfg} {o : Oper} {ρ : Env} {L : AHeap} {K : ARes} (h : aopX C o ρ L K) : aop C o ρ L K := by
  unfold aopX at h; unfold aop
  cases hv : aval C.P ρ L o.op with
  | some cx => rw [hv] at h; exact h
  | none =>
    rw [hv] at h
    by_cases ht : tOp o = true
    · have h : if tOp o then aop2 C o ρ L K else False := h
      rw [if_pos ht] at h; exact h
    · have h : if tOp o then aop2 C o ρ L K else False := h
      rw [if_neg ht] at h; exact h.elim

section
variable {C : Cfg} {o : Oper} {ρ ρ' : Env} {L : AHeap} {K K' : ARes}
theorem aop2_tr (hag : ∀ x ∈ o.op.operands, ev ρ' x = ev ρ x) (ht : tOp o = true) (k1 : ∀ x L, K (put ρ o.dst x) L → K' (put ρ' o.dst x) L) (k2 : ∀ s y x L, (∃ t x', o.op = .store t (.tmp s) x') → K ((s, y) :: put ρ o.dst x) L → K' ((s, y) :: put ρ' o.dst x) L)
    (h : aop2 C o ρ L K) : aop2 C o ρ' L K' := by
  unfold aop2 at *
  split at h
  · unfold aAlloc at *; split at h
    · exact ⟨h.1, fun b hb => k1 _ _ (h.2 b hb)⟩
    · exact h.elim
  · rename_i t x hop
    rw [hop] at hag
    have e : ev ρ' x = ev ρ x := hag x (by simp [Op.operands])
    rw [e]
    unfold aBox at *; split at h
    · refine ⟨h.1, h.2.1, ?_⟩
      have h := h.2.2
      split at h
      · rename_i hz; rw [if_pos hz]; exact k1 _ _ h
      · rename_i hz; rw [if_neg hz]; exact fun b hb => k1 _ _ (h b hb)
    · exact h.elim
  · rename_i t len parts hop
    rw [hop] at hag
    have e : (parts.toList.map fun p => (p.1, ev ρ' p.2)) = parts.toList.map fun p => (p.1, ev ρ p.2) := List.map_congr_left fun p hp => by
      rw [hag p.2 (by simp only [Op.operands, List.mem_toArray, List.mem_map, Array.mem_map]; first | exact ⟨p, hp, rfl⟩ | exact ⟨p, by simpa using hp, rfl⟩)]
    rw [e]
    unfold aBuildSlice at *; split at h
    · split at h
      · refine ⟨h.1, h.2.1, h.2.2.1, h.2.2.2.1, h.2.2.2.2.1, ?_⟩
        have h := h.2.2.2.2.2
        split at h
        · rename_i hz; rw [if_pos hz]; exact k1 _ _ h
        · rename_i hz; rw [if_neg hz]; exact fun b hb => k1 _ _ (h b hb)
      · exact h.elim
    · exact h.elim
  · rename_i t p x hop
    have hop' := hop
    rw [hop] at hag
    have e1 : ev ρ' p = ev ρ p := hag p (by simp [Op.operands])
    have e2 : ev ρ' x = ev ρ x := hag x (by simp [Op.operands])
    rw [e2]
    unfold aStore at *
    rw [e1]
    split at h
    · split at h
      · refine ⟨h.1, h.2.1, h.2.2.1, h.2.2.2.1, h.2.2.2.2.1, h.2.2.2.2.2.1, h.2.2.2.2.2.2.1, h.2.2.2.2.2.2.2.1, ?_⟩
        have h := h.2.2.2.2.2.2.2.2
        split at h
        · split at h
          · rename_i hz; rw [if_pos hz]; exact k2 _ _ _ _ ⟨_, _, hop'⟩ h
          · rename_i hz; rw [if_neg hz]; exact k1 _ _ h
        · exact k1 _ _ h
      · exact h.elim
    · exact h.elim
  · rename_i t l c hop
    rw [hop] at hag
    have e1 : ev ρ' l = ev ρ l := hag l (by simp [Op.operands])
    have e2 : ev ρ' c = ev ρ c := hag c (by simp [Op.operands])
    rw [e1, e2]
    unfold aMakeSlice at *; split at h
    · split at h
      · exact ⟨h.1, h.2.1, h.2.2.1, h.2.2.2.1, h.2.2.2.2.1, h.2.2.2.2.2.1, fun b hb => k1 _ _ (h.2.2.2.2.2.2 b hb)⟩
      · exact h.elim
    · exact h.elim
  · exact fun b hb => k1 _ _ (h b hb)
  · rename_i cl hop
    rw [hop] at hag
    have ha : ∀ x ∈ cl.args.toList, ev ρ' x = ev ρ x := fun x hx => hag x (by simp only [Op.operands, Call.operands, Array.mem_append]; exact .inr (by simpa using hx))
    split at h
    · rename_i s x t t' h0 hx ht'
      have e1 : ev ρ' s = ev ρ s := ha s (by rw [hx]; simp)
      have e2 : ev ρ' x = ev ρ x := ha x (by rw [hx]; simp)
      rw [e1, e2]
      refine ⟨h.1, ?_⟩
      have h := h.2
      unfold aAppend at *; split at h
      · split at h
        · split at h
          · refine ⟨h.1, h.2.1, h.2.2.1, h.2.2.2.1, h.2.2.2.2.1, ?_⟩
            have h := h.2.2.2.2.2
            split at h
            · exact ⟨h.1, fun hy => k1 _ _ (h.2.1 hy), fun hy b c hb hc => k1 _ _ (h.2.2 hy b c hb hc)⟩
            · split at h
              · exact ⟨h.1, h.2.1, h.2.2.1, h.2.2.2.1, h.2.2.2.2.1, h.2.2.2.2.2.1, fun b c hb hc => k1 _ _ (h.2.2.2.2.2.2 b c hb hc)⟩
              · exact h.elim
            · split at h
              · exact ⟨h.1, h.2.1, h.2.2.1, h.2.2.2.1, h.2.2.2.2.1, h.2.2.2.2.2.1, fun hc => k1 _ _ (h.2.2.2.2.2.2.1 hc), fun b c hb hc => k1 _ _ (h.2.2.2.2.2.2.2 b c hb hc)⟩
              · exact h.elim
            · exact h.elim
          · exact h.elim
        · exact h.elim
      · exact h.elim
    · rename_i s x t t' h0 hx ht'
      have e1 : ev ρ' s = ev ρ s := ha s (by rw [hx]; simp)
      have e2 : ev ρ' x = ev ρ x := ha x (by rw [hx]; simp)
      rw [e1, e2]
      unfold aCopy at *; split at h
      · split at h
        · split at h
          · refine ⟨h.1, h.2.1, h.2.2.1, h.2.2.2.1, ?_⟩
            have h := h.2.2.2.2
            split at h
            · split at h
              · exact ⟨h.1, h.2.1, h.2.2.1, k1 _ _ h.2.2.2⟩
              · exact h.elim
            · exact h.elim
          · exact h.elim
        · exact h.elim
      · exact h.elim
    · rename_i l tys g h0
      have e0 : ev ρ' g = ev ρ g := hag g (by simp [Op.operands, Call.operands, h0])
      have e1 : cl.args.toList.map (ev ρ') = cl.args.toList.map (ev ρ) := List.map_congr_left ha
      have e2 : (cl.args.toList.map fun x => (fo (ev ρ' x)).2) = cl.args.toList.map fun x => (fo (ev ρ x)).2 := List.map_congr_left fun x hx => by rw [ha x hx]
      rw [e0, e1, e2]
      exact ⟨h.1, h.2.1, h.2.2.mono fun r L hh => k1 _ _ hh⟩
    · rename_i hn1 hn2 hn3
      exfalso
      simp only [tOp, hop] at ht
      cases ht
  · rename_i op t x y ty hop; simp [tOp, hop] at ht
  · rename_i t m k x hop
    rw [hop] at hag
    have e1 : ev ρ' m = ev ρ m := hag m (by simp [Op.operands])
    have e2 : ev ρ' k = ev ρ k := hag k (by simp [Op.operands])
    have e3 : ev ρ' x = ev ρ x := hag x (by simp [Op.operands])
    rw [e1, e2, e3]
    unfold aMapUpdate at *
    split at h
    · split at h
      · exact ⟨h.1, h.2.1, h.2.2.1, h.2.2.2.1, h.2.2.2.2.1, k1 _ _ h.2.2.2.2.2⟩
      · exact h.elim
    · exact h.elim
  · rename_i hn1 hn2 hn3 hn4 hn5 hn6 hn7 hn8 hn9
    exfalso
    unfold tOp at ht
    split at ht
    · rename_i e; exact hn1 _ e
    · rename_i e; exact hn2 _ _ e
    · rename_i e; exact hn3 _ _ _ e
    · rename_i e; exact hn4 _ _ _ e
    · rename_i e; exact hn5 _ _ _ e
    · rename_i e; exact hn6 _ e
    · rename_i e; exact hn9 _ _ _ _ e
    · rename_i e; exact hn7 _ e
    · cases ht
theorem aopX_tr (hag : ∀ x ∈ o.op.operands, ev ρ' x = ev ρ x) (k1 : ∀ x L, K (put ρ o.dst x) L → K' (put ρ' o.dst x) L) (k2 : ∀ s y x L, (∃ t x', o.op = .store t (.tmp s) x') → K ((s, y) :: put ρ o.dst x) L → K' ((s, y) :: put ρ' o.dst x) L)
    (h : aopX C o ρ L K) : aopX C o ρ' L K' := by
  unfold aopX at *
  rw [aval_congr hag]
  cases hv : aval C.P ρ L o.op with
  | some cx => rw [hv] at h; exact ⟨h.1, k1 _ _ h.2⟩
  | none =>
    rw [hv] at h
    by_cases ht : tOp o = true
    · have h : if tOp o then aop2 C o ρ L K else False := h
      rw [if_pos ht] at h
      show if tOp o then aop2 C o ρ' L K' else False
      rw [if_pos ht]
      exact aop2_tr hag ht k1 k2 h
    · have h : if tOp o then aop2 C o ρ L K else False := h
      rw [if_neg ht] at h; exact h.elim
end

/-! ### Yields that no memory of ours decides -/
theorem aLoad_nil {P : Program} {t : TypeId} {p : AV} {r : Prop × AV} (h : aLoad P [] t p = some r) (L : AHeap) : aLoad P L t p = some r := by
  unfold aLoad at *
  split at h
  · cases h
  · split at h
    · exact h
    · cases h
    · cases h
theorem aLen_nil {P : Program} {t : TypeId} {x : AV} {r : Prop × AV} (h : aLen P [] t x = some r) (L : AHeap) : aLen P L t x = some r := by
  unfold aLen at *
  split at h
  · exact h
  · exact h
  · exact h
  · exact h
  · split at h
    · exact h
    · cases h
    · exact h
    · cases h
  · cases h
theorem w1_nil {x : AV} {f g : AV → Option (Prop × AV)} {r : Prop × AV} (h : w1 x f = some r) (hfg : ∀ y r, f y = some r → g y = some r) : w1 x g = some r := by
  unfold w1 at *
  split at h
  · rename_i c y hf; rw [hfg _ _ hf]; exact h
  · cases h
theorem w2_nil {x y : AV} {f g : AV → AV → Option (Prop × AV)} {r : Prop × AV} (h : w2 x y f = some r) (hfg : ∀ y z r, f y z = some r → g y z = some r) : w2 x y g = some r := by
  unfold w2 at *
  split at h
  · rename_i c z hf; rw [hfg _ _ _ hf]; exact h
  · cases h
theorem mapOf_nil {m : AV} {r : List Value × List AV} (h : mapOf [] m = some r) (L : AHeap) : mapOf L m = some r := by
  unfold mapOf at *
  split at h
  · cases h
  · exact h
  · exact h
  · cases h
theorem aLookup_nil {P : Program} {t : TypeId} {ok : Bool} {m k : AV} {r : Prop × AV} (h : aLookup P [] t ok m k = some r) (L : AHeap) : aLookup P L t ok m k = some r := by
  unfold aLookup at *
  split at h
  · split at h
    · rename_i e1 e2 e3 e4
      rw [e1, e2, e3, mapOf_nil e4 L]; exact h
    · cases h
  · cases h
theorem aval_nil {P : Program} {ρ : Env} {op : Op} {r : Prop × AV} (h : aval P ρ [] op = some r) (L : AHeap) : aval P ρ L op = some r := by
  cases op with
  | load t x => exact w1_nil h fun y r hy => aLoad_nil hy L
  | lookup t m k ok => exact w2_nil h fun y z r hy => aLookup_nil hy L
  | call c =>
    unfold aval at *
    dsimp only at *
    split at h
    · exact w1_nil h fun y r hy => aLen_nil hy L
    · exact h
    · exact h
    · cases h
  | makeFunc fn first cap => cases fn <;> exact h
  | slice t x lo hi mx => cases mx <;> exact h
  | _ => exact h

/-- Operation i yields x, whatever of ours lies in the memory. -/
def YldF (C : Cfg) (ops : Array Oper) (i : Nat) (o : Oper) (x : AV) (ρ : Env) : Prop :=
  ∀ ρ' L, (∀ t ∈ o.looksAt ops, get ρ' t = get ρ t) → GOp C ops i ρ' L fun ρ2 L2 => ρ2 = put ρ' o.dst x ∧ L2 = L
def aqF (C : Cfg) (all : List Oper) (o : Oper) (ρ : Env) (K : Env → Prop) : Prop :=
  match o.guard with
  | none => match aval C.P ρ [] o.op with
    | some (c, x) => c ∧ K (put ρ o.dst x)
    | none => match o.op with
      | .call c => match c.callee with
        | .value g => GCall C.P True ((fo (ev ρ g)).1 ∧ fos (c.args.toList.map (ev ρ))) (fo (ev ρ g)).2 (c.args.toList.map fun x => (fo (ev ρ x)).2) [] (putQ K ρ o.dst)
        | _ => False
      | _ => False
  | some (j, want) => match gval all ρ j want with
    | some b => match aval C.P ρ [] o.op with
      | some (c, x) => (b = want → c) ∧ K (put ρ o.dst (.cond (b == want) x))
      | none => match o.op with
        | .call c => match c.callee with
          | .value g => GCall C.P (b = want) ((fo (ev ρ g)).1 ∧ fos (c.args.toList.map (ev ρ))) (fo (ev ρ g)).2 (c.args.toList.map fun x => (fo (ev ρ x)).2) [] (putQC K ρ o.dst (b == want))
          | _ => False
        | _ => False
    | none => False
section
variable {C : Cfg} {ops : Array Oper}
theorem MVal.any {P : Program} {g : AV} {args : List AV} {r : AV} (h : MVal P g args [] fun r' L' => r' = r ∧ L' = []) (L : AHeap) : MVal P g args L fun r' L' => r' = r ∧ L' = L := by
  have := MVal.frame (Lr := L) h
  exact this.mono fun r' L' ⟨L1, e, e1, e2⟩ => by subst e1 e2; exact ⟨rfl, by simpa using e⟩
theorem aqF_yields {i : Nat} {o : Oper} {ρ : Env} {K : Env → Prop} (hi : ops[i]? = some o) (hok : operOk C.N o = true) (h : aqF C ops.toList o ρ K) : ∃ x, YldF C ops i o x ρ ∧ K (put ρ o.dst x) := by
  have hd := operOk_dst hok
  have hdef := operOk_def hok
  unfold aqF at h
  split at h
  · rename_i hg
    split at h
    · rename_i c x hv
      exact ⟨x, fun ρ' L hag => AOp.gop hi hg (aval_sound (by rw [aval_congr (agree_ops hag)]; exact aval_nil hv L) h.1 hd hdef), h.2⟩
    · split at h
      · rename_i cl ho
        split at h
        · rename_i g h0
          obtain ⟨r, h1, h2⟩ := h
          refine ⟨r, fun ρ' L hag => AOp.gop hi hg ?_, h2⟩
          have hag' := agree_ops hag
          rw [ho] at hag'
          obtain ⟨e1, e2, e3⟩ := call_congr h0 hag'
          exact call_sound ho h0 hd (by rw [e1, e2, e3]; exact ⟨(h1 trivial).1.1, (h1 trivial).1.2, (h1 trivial).2.any L⟩)
        · exact h.elim
      · exact h.elim
  · rename_i j want hg
    split at h
    · rename_i b hv
      split at h
      · rename_i c x ha
        refine ⟨_, fun ρ' L hag => GOp.of_cond hi hg (by rw [agree_guard hag hg]; exact hv) hd fun hb => aval_sound (by rw [aval_congr (agree_ops hag)]; exact aval_nil ha L) (h.1 hb) hd hdef, h.2⟩
      · split at h
        · rename_i cl ho
          split at h
          · rename_i g h0
            obtain ⟨r, h1, h2⟩ := h
            refine ⟨_, fun ρ' L hag => GOp.of_cond hi hg (by rw [agree_guard hag hg]; exact hv) hd fun hb => ?_, h2⟩
            have hag' := agree_ops hag
            rw [ho] at hag'
            obtain ⟨e1, e2, e3⟩ := call_congr h0 hag'
            exact call_sound ho h0 hd (by rw [e1, e2, e3]; exact ⟨(h1 hb).1.1, (h1 hb).1.2, (h1 hb).2.any L⟩)
          · exact h.elim
        · exact h.elim
    · exact h.elim
end

/-! ### Quiet operations at any time, the others by their tree -/
def dstOf (ops : Array Oper) (i : Nat) : Option Nat := (ops[i]?).bind (·.dst)
def predsOf (o : Oper) : List Nat := (o.after.toList.filter (Region.binds .any)).map (·.on)
def touchOf (o : Oper) : List Nat := o.dst.toList ++ (match o.op with | .store _ (.tmp s) _ => [s] | _ => [])
def ascend : List Nat → Bool
  | [] => true
  | i :: r => r.all (fun j => decide (i < j)) && ascend r
def mixOk (ops : Array Oper) (qs : List Nat) : Bool :=
  ascend qs && qs.all (fun q => decide (q < ops.size)) &&
  (List.range ops.size).all fun i => match ops[i]? with
    | some o => (predsOf o).all (fun p => decide (p < i)) &&
        qs.all (fun q => match dstOf ops q with
          | some d => (!(o.looksAt ops).contains d || (predsOf o).contains q) && (i == q || !(o.dst == some d))
          | none => true) &&
        (qs.contains i || (o.guard.isNone && qs.all fun q => match ops[q]? with
          | some oq => (touchOf o).all fun s => (!(oq.looksAt ops).contains s || (predsOf o).contains q) && !(oq.dst == some s)
          | none => true))
    | none => true
def OT.apX (C : Cfg) (all : List Oper) (K : ARes) : OT → Env → AHeap → Prop
  | .done, _, _ => True
  | .step i t r, ρ, L => (match all[i]? with | some o => aopX C o ρ L (fun ρ L => if t.isDone then K ρ L else OT.apX C all K t ρ L) | none => False) ∧ OT.apX C all K r ρ L
def OT.nxX (C : Cfg) (all : List Oper) (K : ARes) (t : OT) (ρ : Env) (L : AHeap) : Prop := if t.isDone then K ρ L else OT.apX C all K t ρ L
theorem OT.apX_done (C : Cfg) (all : List Oper) (K : ARes) (ρ : Env) (L : AHeap) : OT.apX C all K .done ρ L = True := rfl
theorem OT.apX_step (C : Cfg) (all : List Oper) (K : ARes) (i : Nat) (t r : OT) (ρ : Env) (L : AHeap) :
    OT.apX C all K (.step i t r) ρ L = ((match all[i]? with | some o => aopX C o ρ L (OT.nxX C all K t) | none => False) ∧ OT.apX C all K r ρ L) := rfl
theorem OT.nxX_done (C : Cfg) (all : List Oper) (K : ARes) (ρ : Env) (L : AHeap) : OT.nxX C all K .done ρ L = K ρ L := rfl
theorem OT.nxX_step (C : Cfg) (all : List Oper) (K : ARes) (i : Nat) (t r : OT) (ρ : Env) (L : AHeap) : OT.nxX C all K (.step i t r) ρ L = OT.apX C all K (.step i t r) ρ L := rfl
def aqRun (C : Cfg) (all : List Oper) : List Nat → (Env → Prop) → Env → Prop
  | [], K, ρ => K ρ
  | i :: r, K, ρ => match all[i]? with
    | some o => aqF C all o ρ (aqRun C all r K)
    | none => False
def fullL (n : Nat) (qs : List Nat) : Array Bool := qs.foldl (fun l q => l.setIfInBounds q true) (Array.replicate n false)

section
variable {C : Cfg} {ops : Array Oper}
/-- What the quiet operations give. -/
def QFact (C : Cfg) (ops : Array Oper) (ρ : Env) (q : Nat) : Prop := ∃ o x, ops[q]? = some o ∧ YldF C ops q o x ρ ∧ ∀ d, o.dst = some d → get ρ d = x
theorem YldF.of_agree {i : Nat} {o : Oper} {x : AV} {ρ ρ' : Env} (h : YldF C ops i o x ρ) (he : ∀ t ∈ o.looksAt ops, get ρ' t = get ρ t) : YldF C ops i o x ρ' :=
  fun ρ2 L hag => h ρ2 L fun t ht => (hag t ht).trans (he t ht)
theorem ascend_cons {i : Nat} {r : List Nat} (h : ascend (i :: r) = true) : (∀ j ∈ r, i < j) ∧ ascend r = true := by
  simp only [ascend, Bool.and_eq_true, List.all_eq_true, decide_eq_true_eq] at h; exact h
theorem mix_at {qs : List Nat} (h : mixOk ops qs = true) {i : Nat} {o : Oper} (hi : ops[i]? = some o) :
    (∀ p ∈ predsOf o, p < i) ∧ (∀ q ∈ qs, ∀ d, dstOf ops q = some d → (d ∈ o.looksAt ops → q ∈ predsOf o) ∧ (i ≠ q → o.dst ≠ some d)) ∧
    (i ∉ qs → o.guard = none ∧ ∀ q ∈ qs, ∀ oq, ops[q]? = some oq → ∀ s ∈ touchOf o, (s ∈ oq.looksAt ops → q ∈ predsOf o) ∧ oq.dst ≠ some s) := by
  unfold mixOk at h
  simp only [Bool.and_eq_true, List.all_eq_true] at h
  have hlt : i < ops.size := (Array.getElem?_eq_some_iff.1 hi).1
  have h3 := h.2 i (List.mem_range.2 hlt)
  rw [hi] at h3
  simp only [Bool.and_eq_true, List.all_eq_true, decide_eq_true_eq] at h3
  refine ⟨h3.1.1, fun q hq d hd => ?_, fun hiq => ?_⟩
  · have := h3.1.2 q hq
    rw [hd] at this
    simp only [Bool.and_eq_true, Bool.or_eq_true, Bool.not_eq_true', List.contains_eq_mem, decide_eq_true_eq, decide_eq_false_iff_not, beq_iff_eq, beq_eq_false_iff_ne, ne_eq] at this
    exact ⟨fun hm => this.1.resolve_left (fun hn => hn hm), fun hne => this.2.resolve_left hne⟩
  · have h4 := h3.2
    simp only [Bool.or_eq_true, List.contains_eq_mem, decide_eq_true_eq, Bool.and_eq_true, Option.isNone_iff_eq_none, List.all_eq_true] at h4
    have h4 := h4.resolve_left hiq
    refine ⟨h4.1, fun q hq oq hoq s hs => ?_⟩
    have := h4.2 q hq
    rw [hoq] at this
    simp only [List.all_eq_true, Bool.and_eq_true, Bool.or_eq_true, Bool.not_eq_true', List.contains_eq_mem, decide_eq_true_eq, decide_eq_false_iff_not, beq_eq_false_iff_ne, ne_eq] at this
    exact ⟨fun hm => (this s hs).1.resolve_left (fun hn => hn hm), (this s hs).2⟩
theorem mix_asc {qs : List Nat} (h : mixOk ops qs = true) : ascend qs = true ∧ ∀ q ∈ qs, q < ops.size := by
  unfold mixOk at h
  simp only [Bool.and_eq_true, List.all_eq_true, decide_eq_true_eq] at h
  exact h.1
theorem aqRun_facts {qs0 : List Nat} (hm : mixOk ops qs0 = true) (hok : ops.toList.all (operOk C.N) = true) : ∀ (qs : List Nat) (ρ : Env) (K : Env → Prop), (∀ q ∈ qs, q ∈ qs0) → ascend qs = true → aqRun C ops.toList qs K ρ →
    ∃ ρq, K ρq ∧ (∀ q ∈ qs, QFact C ops ρq q) ∧ ∀ s, (∀ q ∈ qs, dstOf ops q ≠ some s) → get ρq s = get ρ s
  | [], ρ, K, _, _, h => ⟨ρ, h, fun q hq => (by cases hq), fun _ _ => rfl⟩
  | i :: r, ρ, K, hsub, hasc, h => by
    obtain ⟨hlt, hasc'⟩ := ascend_cons hasc
    simp only [aqRun] at h
    cases ho : ops.toList[i]? with
    | none => rw [ho] at h; exact h.elim
    | some o =>
      rw [ho] at h
      have ho' : ops[i]? = some o := by simpa using ho
      obtain ⟨x, hy, hK⟩ := aqF_yields ho' (List.all_eq_true.1 hok o (List.mem_of_getElem? ho)) h
      obtain ⟨ρq, h1, h2, h3⟩ := aqRun_facts hm hok r _ K (fun q hq => hsub q (List.mem_cons_of_mem _ hq)) hasc' hK
      obtain ⟨p1, p2, _⟩ := mix_at hm ho'
      have hself : ∀ d, o.dst = some d → d ∉ o.looksAt ops := fun d hd hm' => by
        have := (p2 i (hsub i List.mem_cons_self) d (by simp [dstOf, ho', hd])).1 hm'
        exact absurd (p1 i this) (Nat.lt_irrefl i)
      refine ⟨ρq, h1, fun q hq => ?_, fun s hs => ?_⟩
      · rcases List.mem_cons.1 hq with rfl | hq
        · refine ⟨o, x, ho', hy.of_agree fun t ht => ?_, fun d hd => ?_⟩
          · rw [h3 t fun q' hq' he => ?_, get_put, if_neg fun he => hself t he ht]
            have := (p2 q' (hsub q' (List.mem_cons_of_mem _ hq')) t he).1 ht
            have := p1 q' this; have := hlt q' hq'; omega
          · rw [h3 d fun q' hq' he => ?_, get_put, if_pos hd]
            exact (p2 q' (hsub q' (List.mem_cons_of_mem _ hq')) d he).2 (by have := hlt q' hq'; omega) hd
        · exact h2 q hq
      · rw [h3 s fun q hq => hs q (List.mem_cons_of_mem _ hq), get_put, if_neg]
        have := hs i List.mem_cons_self
        simpa [dstOf, ho'] using this

def mask (ops : Array Oper) (qs : List Nat) (listed : Array Bool) (ρ : Env) : Env := ((qs.filter fun q => listed.getD q true == false).filterMap (dstOf ops)).map (fun d => (d, AV.any)) ++ ρ
theorem get_anys (l : List Nat) (ρ : Env) (s : Nat) : get (l.map (fun d => (d, AV.any)) ++ ρ) s = if s ∈ l then .any else get ρ s := by
  induction l with
  | nil => simp
  | cons d l ih =>
    simp only [List.map_cons, List.cons_append, get, List.mem_cons]
    by_cases h : s = d
    · simp [h]
    · simp [h, ih]
theorem mask_or (qs : List Nat) (listed : Array Bool) (ρ : Env) (s : Nat) : (get (mask ops qs listed ρ) s = .any ∧ ∃ q ∈ qs, listed.getD q true = false ∧ dstOf ops q = some s) ∨ (get (mask ops qs listed ρ) s = get ρ s ∧ ∀ q ∈ qs, listed.getD q true = false → dstOf ops q ≠ some s) := by
  unfold mask
  rw [get_anys]
  split
  · rename_i h
    refine .inl ⟨rfl, ?_⟩
    obtain ⟨q, hq, hd⟩ := List.mem_filterMap.1 h
    obtain ⟨h1, h2⟩ := List.mem_filter.1 hq
    exact ⟨q, h1, by simpa using h2, hd⟩
  · rename_i h
    refine .inr ⟨rfl, fun q hq hl hd => h ?_⟩
    exact List.mem_filterMap.2 ⟨q, List.mem_filter.2 ⟨hq, by simpa using hl⟩, hd⟩
theorem mask_out {qs : List Nat} {listed : Array Bool} {ρ : Env} {s : Nat} (h : ∀ q ∈ qs, listed.getD q true = false → dstOf ops q ≠ some s) : get (mask ops qs listed ρ) s = get ρ s := by
  rcases mask_or (ops := ops) qs listed ρ s with ⟨_, q, h1, h2, h3⟩ | h'
  · exact absurd h3 (h q h1 h2)
  · exact h'.1
theorem OT.isDone_iff {T : OT} (h : T.alts = []) : T = .done := by cases T with | done => rfl | step i t r => cases h

theorem getD_tf {listed : Array Bool} {i : Nat} (h : listed.getD i false = true) : listed.getD i true = true := by
  by_cases hi : i < listed.size
  · simpa [Array.getD, hi] using h
  · simp [Array.getD, hi] at h
theorem getD_ft {listed : Array Bool} {i : Nat} (hi : i < listed.size) (h : listed.getD i true = true) : listed.getD i false = true := by simpa [Array.getD, hi] using h

theorem mix_sound {qs : List Nat} (hm : mixOk ops qs = true) (hok : ops.toList.all (operOk C.N) = true) {K : ARes} {n : Nat} {w0 : World} {M A0 : Foot} {Q : Exit → Act → World → Prop} (hQ : ∀ a w, post w0 M A0 C.N K a w → Q .normal a w) :
    ∀ (f : Nat) (T : OT) (g : Nat) (listed listedF : Array Bool) (ρT : Env) (L : AHeap) (a : Act) (w : World),
      T.alts = Region.ready .any ops listedF → T.ok ops g listedF = true → listed.size = ops.size → listedF.size = ops.size →
      (∀ i, i ∉ qs → listed.getD i true = listedF.getD i true) → (∀ q ∈ qs, listedF.getD q true = true) →
      (∀ l : List Nat, l.Nodup → (∀ i ∈ l, listed.getD i true = false) → l.length ≤ f) →
      (∀ q ∈ qs, listed.getD q true = false → QFact C ops ρT q) → OT.nxX C ops.toList K T ρT L → St w0 M A0 C.N (mask ops qs listed ρT) L a w →
      wpAnyIn (Fw C.r) n C.P .any ops Q f listed a w := by
  -- where nothing is ready, all is done
  have fin : ∀ (T : OT) (listed listedF : Array Bool) (ρT : Env) (L : AHeap) (a : Act) (w : World), T.alts = Region.ready .any ops listedF → listed.size = ops.size → (∀ i, i ∉ qs → listed.getD i true = listedF.getD i true) → (∀ q ∈ qs, listedF.getD q true = true) →
      OT.nxX C ops.toList K T ρT L → St w0 M A0 C.N (mask ops qs listed ρT) L a w → Region.ready .any ops listed = [] → Q .normal a w := by
    intro T listed listedF ρT L a w hT hsz hL hF hK hs hr
    have all : ∀ i, listed.getD i true = true := by
      intro i
      induction i using Nat.strongRecOn with
      | _ i ih =>
        cases hi : listed.getD i true with
        | true => rfl
        | false =>
          exfalso
          have hlt : i < ops.size := by
            rw [← hsz]
            by_cases h : i < listed.size
            · exact h
            · simp [Array.getD, h] at hi
          have ho : ops[i]? = some ops[i] := Array.getElem?_eq_getElem hlt
          have : i ∈ Region.ready .any ops listed := mem_ready.2 ⟨hi, _, ho, fun e he hb => by
            have hp := (mix_at hm ho).1 e.on (List.mem_map.2 ⟨e, List.mem_filter.2 ⟨by simpa using he, hb⟩, rfl⟩)
            exact getD_ft (by omega) (ih _ hp)⟩
          rw [hr] at this; cases this
    have hTd : T = .done := OT.isDone_iff (by
      rw [hT]
      cases hh : Region.ready .any ops listedF with
      | nil => rfl
      | cons j r =>
        have hj : j ∈ Region.ready .any ops listedF := by rw [hh]; exact List.mem_cons_self
        have h1 := (mem_ready.1 hj).1
        have hq : j ∉ qs := fun hq => by rw [hF j hq] at h1; cases h1
        rw [← hL j hq, all j] at h1; cases h1)
    subst hTd
    refine hQ a w ⟨ρT, L, hK, st_forget hs fun i => .inr ?_⟩
    rw [mask_out fun q _ hl => by rw [all q] at hl; cases hl]
  intro f
  induction f with
  | zero =>
    intro T g listed listedF ρT L a w hT hTo hsz hszF hL hF hcnt hfact hK hs
    have hr : Region.ready .any ops listed = [] := by
      cases hh : Region.ready .any ops listed with
      | nil => rfl
      | cons j r =>
        have hj : j ∈ Region.ready .any ops listed := by rw [hh]; exact List.mem_cons_self
        have := hcnt [j] (by simp) (fun i hi => by simp at hi; subst hi; exact (mem_ready.1 hj).1)
        simp at this
    exact ⟨hr, fin T listed listedF ρT L a w hT hsz hL hF hK hs hr⟩
  | succ f ih =>
    intro T g listed listedF ρT L a w hT hTo hsz hszF hL hF hcnt hfact hK hs
    refine ⟨fin T listed listedF ρT L a w hT hsz hL hF hK hs, fun i hi => ?_⟩
    obtain ⟨hun, o, ho, hpre⟩ := mem_ready.1 hi
    have hlt : i < ops.size := (Array.getElem?_eq_some_iff.1 ho).1
    obtain ⟨m1, m2, m3⟩ := mix_at hm ho
    have hlooks : ∀ t ∈ o.looksAt ops, get (mask ops qs listed ρT) t = get ρT t := fun t ht => mask_out fun q hq hl hd => by
      have hp := (m2 q hq t hd).1 ht
      obtain ⟨e, he, rfl⟩ := List.mem_map.1 hp
      obtain ⟨he1, he2⟩ := List.mem_filter.1 he
      have := getD_tf (hpre e (by simpa using he1) he2)
      rw [hl] at this; cases this
    have hcnt' : ∀ l : List Nat, l.Nodup → (∀ j ∈ l, (listed.setIfInBounds i true).getD j true = false) → l.length ≤ f := fun l hn hl => by
      have hil : i ∉ l := fun h => by
        have := hl i h
        simp [Array.getD, show i < listed.size by omega] at this
      have := hcnt (i :: l) (List.nodup_cons.2 ⟨hil, hn⟩) (fun j hj => by
        rcases List.mem_cons.1 hj with rfl | hj
        · exact hun
        · have := hl j hj
          have hne : i ≠ j := fun e => hil (e ▸ hj)
          rwa [getD_set_ne true hne] at this)
      simp at this; omega
    have hset : ∀ j, j ≠ i → (listed.setIfInBounds i true).getD j true = listed.getD j true := fun j hj => getD_set_ne true (Ne.symm hj)
    have hseti : (listed.setIfInBounds i true).getD i true = true := by simp [Array.getD, show i < listed.size by omega]
    by_cases hq : i ∈ qs
    · obtain ⟨o', x, ho', hy, hgx⟩ := hfact i hq hun
      rw [ho] at ho'; cases ho'
      refine wpOpIn_mono ?_ (hy _ L hlooks n w0 M A0 a w Q hs)
      rintro a' w' ⟨ρ2, L2, ⟨rfl, rfl⟩, hs2⟩
      refine ih T g _ listedF ρT L2 a' w' hT hTo (by simpa using hsz) hszF (fun j hj => by rw [hset j (fun e => hj (e ▸ hq))]; exact hL j hj) hF hcnt' (fun q hq' hl => hfact q hq' (by
        by_cases e : q = i
        · subst e; exact hun
        · rwa [hset q e] at hl)) hK (st_forget hs2 fun s => ?_)
      rcases mask_or (ops := ops) qs (listed.setIfInBounds i true) ρT s with ⟨h1, _⟩ | ⟨h1, h2⟩
      · exact .inl h1
      · refine .inr ?_
        rw [h1, get_put]
        by_cases hd : o.dst = some s
        · rw [if_pos hd]; exact hgx s hd
        · rw [if_neg hd, mask_out fun q hq' hl hds => ?_]
          by_cases e : q = i
          · subst e; exact hd (by simpa [dstOf, ho] using hds)
          · exact h2 q hq' (by rw [hset q e]; exact hl) hds
    · obtain ⟨hg, htouch⟩ := m3 hq
      have hiF : i ∈ Region.ready .any ops listedF := mem_ready.2 ⟨by rw [← hL i hq]; exact hun, o, ho, fun e he hb => by
        have h1 := getD_tf (hpre e he hb)
        have hlt' : e.on < listedF.size := by
          have := m1 e.on (List.mem_map.2 ⟨e, List.mem_filter.2 ⟨by simpa using he, hb⟩, rfl⟩); omega
        by_cases hqe : e.on ∈ qs
        · exact getD_ft hlt' (hF _ hqe)
        · exact getD_ft hlt' (by rw [← hL _ hqe]; exact h1)⟩
      rw [← hT] at hiF
      have key : ∀ (T : OT) (g : Nat), T.ok ops g listedF = true → OT.apX C ops.toList K T ρT L → i ∈ T.alts → ∃ t g', t.alts = Region.ready .any ops (listedF.setIfInBounds i true) ∧ t.ok ops g' (listedF.setIfInBounds i true) = true ∧ aopX C o ρT L (OT.nxX C ops.toList K t) := by
        intro T
        induction T with
        | done => intro g _ _ h; cases h
        | step j t r iht ihr =>
          intro g h1 h2 h3
          cases g with
          | zero => cases h1
          | succ g =>
            simp only [OT.ok, Bool.and_eq_true, beq_iff_eq] at h1
            rw [OT.apX_step] at h2
            rcases List.mem_cons.1 h3 with rfl | h3
            · refine ⟨t, g, h1.1.1, h1.1.2, ?_⟩
              have h0 : ops.toList[i]? = some o := by simpa using ho
              rw [h0] at h2; exact h2.1
            · exact ihr (g + 1) h1.2 h2.2 h3
      have hap : OT.apX C ops.toList K T ρT L := by
        cases T with
        | done => trivial
        | step j t r => exact hK
      obtain ⟨t, g', ht1, ht2, ht3⟩ := key T g hTo hap hiF
      have hag := agree_ops (ρ := ρT) (ρ' := mask ops qs listed ρT) hlooks
      let K' : ARes := fun ρ2 L2 => ∃ ρT2, (∀ s, s ∉ touchOf o → get ρT2 s = get ρT s) ∧ (∀ s, get (mask ops qs (listed.setIfInBounds i true) ρT2) s = .any ∨ get (mask ops qs (listed.setIfInBounds i true) ρT2) s = get ρ2 s) ∧ OT.nxX C ops.toList K t ρT2 L2
      have hmq : ∀ (ρ1 ρ2 : Env), (∀ s, s ∈ touchOf o → get ρ1 s = get ρ2 s) → (∀ s, s ∉ touchOf o → get ρ2 s = get (mask ops qs listed ρT) s ∧ get ρ1 s = get ρT s) → ∀ s, get (mask ops qs (listed.setIfInBounds i true) ρ1) s = .any ∨ get (mask ops qs (listed.setIfInBounds i true) ρ1) s = get ρ2 s := fun ρ1 ρ2 e1 e2 s => by
        rcases mask_or (ops := ops) qs (listed.setIfInBounds i true) ρ1 s with ⟨h1, _⟩ | ⟨h1, h2⟩
        · exact .inl h1
        · refine .inr ?_
          rw [h1]
          by_cases hst : s ∈ touchOf o
          · exact e1 s hst
          · obtain ⟨e3, e4⟩ := e2 s hst
            rw [e3, e4]
            exact (mask_out fun q hq' hl hds => h2 q hq' (by rw [hset q (fun e => hq (e ▸ hq'))]; exact hl) hds).symm
      have htr : aopX C o (mask ops qs listed ρT) L K' := aopX_tr hag (fun x L' hk => ⟨_, fun s hs' => by
          rw [get_put, if_neg]; intro e; exact hs' (by simp [touchOf, e]), hmq _ _ (fun s hs' => by
            rw [get_put, get_put]
            by_cases e : o.dst = some s
            · rw [if_pos e, if_pos e]
            · rw [if_neg e, if_neg e]
              exact (mask_out fun q hq' hl hds => (htouch q hq' _ (Array.getElem?_eq_getElem ((mix_asc hm).2 q hq')) s hs').2 (by simpa [dstOf, Array.getElem?_eq_getElem ((mix_asc hm).2 q hq')] using hds)).symm) (fun s hs' => by
            have e : o.dst ≠ some s := fun e => hs' (by simp [touchOf, e])
            rw [get_put, get_put, if_neg e, if_neg e]; exact ⟨rfl, rfl⟩), hk⟩)
        (fun s' y x L' hst hk => ⟨_, fun s hs' => by
          obtain ⟨t', x', hop⟩ := hst
          have h1 : s ≠ s' := fun e => hs' (by simp [touchOf, hop, e])
          simp only [get, if_neg h1]
          rw [get_put, if_neg]; intro e; exact hs' (by simp [touchOf, e]), hmq _ _ (fun s hs' => by
            simp only [get]
            by_cases h1 : s = s'
            · rw [if_pos h1, if_pos h1]
            · rw [if_neg h1, if_neg h1, get_put, get_put]
              by_cases e : o.dst = some s
              · rw [if_pos e, if_pos e]
              · rw [if_neg e, if_neg e]
                exact (mask_out fun q hq' hl hds => (htouch q hq' _ (Array.getElem?_eq_getElem ((mix_asc hm).2 q hq')) s hs').2 (by simpa [dstOf, Array.getElem?_eq_getElem ((mix_asc hm).2 q hq')] using hds)).symm) (fun s hs' => by
            obtain ⟨t', x', hop⟩ := hst
            have h1 : s ≠ s' := fun e => hs' (by simp [touchOf, hop, e])
            have e : o.dst ≠ some s := fun e => hs' (by simp [touchOf, e])
            simp only [get, if_neg h1]
            rw [get_put, get_put, if_neg e, if_neg e]; exact ⟨rfl, rfl⟩), hk⟩) ht3
      have hoo := List.all_eq_true.1 hok o (List.mem_of_getElem? (show ops.toList[i]? = some o by simpa using ho))
      refine wpOpIn_mono ?_ (AOp.gop ho hg (aop_sound (operOk_dst hoo) (operOk_def hoo) (aopX_aop htr)) n w0 M A0 a w Q hs)
      rintro a' w' ⟨ρ2, L2, ⟨ρT2, h1, h2, h3⟩, hs2⟩
      refine ih t g' _ (listedF.setIfInBounds i true) ρT2 L2 a' w' ht1 ht2 (by simpa using hsz) (by simpa using hszF) (fun j hj => ?_) (fun q hq' => ?_) hcnt' (fun q hq' hl => ?_) h3 (st_forget hs2 h2)
      · by_cases e : j = i
        · subst e; rw [hseti]; simp [Array.getD, show j < listedF.size by omega]
        · rw [hset j e, getD_set_ne true (Ne.symm e)]; exact hL j hj
      · have e : q ≠ i := fun e => hq (e ▸ hq')
        rw [getD_set_ne true (Ne.symm e)]; exact hF q hq'
      · have e : q ≠ i := fun e => hq (e ▸ hq')
        rw [hset q e] at hl
        obtain ⟨oq, x, hoq, hy, hgx⟩ := hfact q hq' hl
        refine ⟨oq, x, hoq, hy.of_agree fun s hs' => h1 s fun hst => ?_, fun d hd => ?_⟩
        · have hp := (htouch q hq' oq hoq s hst).1 hs'
          obtain ⟨e', he', rfl⟩ := List.mem_map.1 hp
          obtain ⟨he1, he2⟩ := List.mem_filter.1 he'
          have := getD_tf (hpre e' (by simpa using he1) he2)
          rw [hl] at this; cases this
        · rw [h1 d fun hst => (htouch q hq' oq hoq d hst).2 hd]; exact hgx d hd
end

theorem fullL_spec (qs : List Nat) (n : Nat) (h : ∀ q ∈ qs, q < n) : (fullL n qs).size = n ∧ (∀ i, i ∉ qs → (fullL n qs).getD i true = (Array.replicate n false).getD i true) ∧ ∀ q ∈ qs, (fullL n qs).getD q true = true := by
  have key : ∀ (qs : List Nat) (l : Array Bool), l.size = n → (∀ q ∈ qs, q < n) →
      (qs.foldl (fun l q => l.setIfInBounds q true) l).size = n ∧ (∀ i, i ∉ qs → (qs.foldl (fun l q => l.setIfInBounds q true) l).getD i true = l.getD i true) ∧ ∀ i, (i ∈ qs ∨ l.getD i true = true) → (qs.foldl (fun l q => l.setIfInBounds q true) l).getD i true = true := by
    intro qs
    induction qs with
    | nil => intro l hl _; exact ⟨hl, fun _ _ => rfl, fun i hi => hi.resolve_left (by simp)⟩
    | cons q qs ih =>
      intro l hl hq
      obtain ⟨h1, h2, h3⟩ := ih (l.setIfInBounds q true) (by simpa using hl) (fun q' hq' => hq q' (List.mem_cons_of_mem _ hq'))
      refine ⟨h1, fun i hi => ?_, fun i hi => ?_⟩
      · simp only [List.mem_cons, not_or] at hi
        rw [List.foldl_cons, h2 i hi.2, getD_set_ne true (Ne.symm hi.1)]
      · rw [List.foldl_cons]
        apply h3
        by_cases e : i = q
        · subst e; exact .inr (by have := hq i List.mem_cons_self; simp [Array.getD, show i < l.size by omega])
        · rcases hi with hi | hi
          · exact .inl ((List.mem_cons.1 hi).resolve_left e)
          · exact .inr (by rw [getD_set_ne true (Ne.symm e)]; exact hi)
  obtain ⟨h1, h2, h3⟩ := key qs (Array.replicate n false) (by simp) h
  exact ⟨h1, h2, fun q hq => h3 q (.inl hq)⟩
def mixAll (ops : Array Oper) (qs : List Nat) (T : OT) : Bool := mixOk ops qs && (T.alts == Region.ready .any ops (fullL ops.size qs)) && T.ok ops ops.size (fullL ops.size qs)
def mixK (C : Cfg) (all : List Oper) (K : ARes) (T : OT) (L : AHeap) (ρ : Env) : Prop := OT.nxX C all K T ρ L
/-- A drawing statement: the operations qs only yield values, at any time; the others come in the orders of the tree. -/
theorem AWp.mix {C : Cfg} {id : Nat} {ops : Array Oper} {Q : AQ} {ρ : Env} {L : AHeap} (hmx : C.P.follows .mixedOrders = true) (qs : List Nat) (T : OT) (hT : mixAll ops qs T = true)
    (h : aqRun C ops.toList qs (mixK C ops.toList (Q .normal) T L) ρ) : AWp C (.region id ops true) Q ρ L := fun hok n w0 M A0 a w hs => by
  simp only [mixAll, Bool.and_eq_true, beq_iff_eq] at hT
  obtain ⟨⟨hm, h1⟩, h2⟩ := hT
  have hasc := mix_asc hm
  obtain ⟨f1, f2, f3⟩ := fullL_spec qs ops.size hasc.2
  obtain ⟨ρq, hK, hF, hother⟩ := aqRun_facts hm hok qs ρ _ (fun _ h => h) hasc.1 h
  refine wpIn_region_any hmx ?_
  obtain ⟨A, ds, hs'⟩ := st_iff.1 hs
  refine mix_sound hm hok (K := Q .normal) (fun a w ⟨ρ', L', h1, h2⟩ => ⟨ρ', L', h1, h2⟩) ops.size T ops.size _ (fullL ops.size qs) ρq L a _ h1 h2 (by simp) f1 (fun i hi => (f2 i hi).symm) f3 ?_ (fun q hq _ => hF q hq) hK
    (st_forget (st_iff.2 ⟨A, ds, hs'.drew⟩) fun s => ?_)
  · intro l hn hl
    have := List.Nodup.length_le_of_subset hn (l₂ := List.range ops.size) (fun i hi => by
      have := hl i hi
      rw [List.mem_range]
      by_cases h : i < ops.size
      · exact h
      · simp [Array.getD, h] at this)
    simpa using this
  · rcases mask_or (ops := ops) qs (Array.replicate ops.size false) ρq s with ⟨h1, _⟩ | ⟨h1, h2⟩
    · exact .inl h1
    · refine .inr ?_
      rw [h1]
      exact hother s fun q hq hd => h2 q hq (by simp [Array.getD, hasc.2 q hq]) hd
theorem aqRun_nil (C : Cfg) (all : List Oper) (K : Env → Prop) (ρ : Env) : aqRun C all [] K ρ = K ρ := rfl
theorem aqRun_cons (C : Cfg) (all : List Oper) (i : Nat) (r : List Nat) (K : Env → Prop) (ρ : Env) : aqRun C all (i :: r) K ρ = (match all[i]? with | some o => aqF C all o ρ (aqRun C all r K) | none => False) := rfl
attribute [go_sem] aqRun_nil aqRun_cons aqF mixK OT.apX_done OT.apX_step OT.nxX_done OT.nxX_step aopX tOp
end Go.AL
