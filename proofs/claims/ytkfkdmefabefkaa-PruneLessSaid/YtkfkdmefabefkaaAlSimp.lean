/- The layer AL, part 15: the set by which simp carries a walk on. No condition. -/
import Derived.Test.YtkfkdmefabefkaaAlEnter
namespace Go.AL
open Go Go.RowKit
attribute [go_sem] OT.ap_done OT.ap_step OT.nx_done OT.nx_step fop wo Option.map_some Option.map_none awp1 aregion_nil aregion_cons aregK putK putC putQ putQC aquietK aquiet_nil aquiet_cons aregD astep aop aval aop2 aguard gval get put ev w1 w2 fos aLoad aFieldAddr aIndexAddr aIndex aField aSlice aLen aBin aEq eqv1 eqvs fitss SK.fits aNilCmp aLookup aMapUpdate flatV flatVs mapOf aUn aConv aMin aMax aExtract aNil aStore aBox aAlloc aBuildSlice
  aMakeSlice aMakeMap aAppend aCopy aBuild thenQ blockQ noGotoQ retQ aresults aresult resAV pickT pickF lk upd fresh apart keep lenv roundQ rangeQ aenv isFz pickAV loadAV ldOk TI.agg AV.cells
  true_and and_true if_true if_false Nat.reduceAdd Nat.reduceMul Nat.reduceSub Nat.reduceEqDiff Nat.reduceLT Nat.reduceLeDiff Int.reduceNeg Int.toNat_natCast Int.toNat_zero
section
variable (x : AV) (c : Bool)
theorem fo_v (x : Value) : fo (.v x) = (True, .v x) := rfl
theorem fo_agg (x : List AV) : fo (.agg x) = (True, .agg x) := rfl
theorem fo_tup (x : List AV) : fo (.tup x) = (True, .tup x) := rfl
theorem fo_sl (k : Nat) (x : List AV) : fo (.sl k x) = (True, .sl k x) := rfl
theorem fo_rp (k : Nat) (x : List AV) (i j : Nat) : fo (.rp k x i j) = (True, .rp k x i j) := rfl
theorem fo_ls (a b c d e : Nat) : fo (.ls a b c d e) = (True, .ls a b c d e) := rfl
theorem fo_lp (a b c d : Nat) : fo (.lp a b c d) = (True, .lp a b c d) := rfl
theorem fo_clo (f : FuncId) (x : List AV) : fo (.clo f x) = (True, .clo f x) := rfl
theorem fo_rm (k : List Value) (x : List AV) : fo (.rm k x) = (True, .rm k x) := rfl
theorem fo_lm (b : Nat) : fo (.lm b) = (True, .lm b) := rfl
theorem fo_any : fo .any = (True, .any) := rfl
theorem fo_cond : fo (.cond c x) = (c = true, x) := rfl
end
attribute [go_sem] fo_v fo_agg fo_tup fo_sl fo_rp fo_ls fo_lp fo_clo fo_rm fo_lm fo_any fo_cond List.drop_zero List.drop_succ_cons List.take_succ_cons List.getD_cons_zero
attribute [go_sem] List.map_cons List.map_nil setAll partsOk elOk okv one Value.oneCell' AppOk List.all_cons List.all_nil List.length_cons List.length_nil Bool.false_eq_true Bool.and_true Bool.true_and Bool.and_false Bool.false_and
  ne_eq not_false_eq_true not_true_eq_false Nat.zero_le Nat.le_refl Nat.add_zero Nat.zero_add List.nil_append del List.take_zero List.take_nil List.length_map true_implies forall_const implies_true List.getD_cons_zero List.getD_cons_succ
  srcOf Bool.not_true Bool.not_false decide_true decide_false Nat.zero_lt_succ false_implies List.replicate_zero List.replicate_succ List.set_cons_zero List.set_cons_succ List.getElem?_cons_zero List.getElem?_cons_succ stEl splice List.cons_append
  Nat.zero_mul Nat.one_mul Nat.mul_one Nat.mul_zero Nat.sub_zero Nat.lt_irrefl eq_self
theorem ite_and_b (a b : Bool) : (if a = true then b else false) = (a && b) := by cases a <;> rfl
theorem ite_or_b (a b : Bool) : (if a = true then true else b) = (a || b) := by cases a <;> rfl
theorem ite_and_b' (a b : Bool) : (if a = false then b else false) = (!a && b) := by cases a <;> rfl
theorem ite_or_b' (a b : Bool) : (if a = false then true else b) = (!a || b) := by cases a <;> rfl
theorem ite_imp_b (a b : Bool) : (if a = true then b else true) = (!a || b) := by cases a <;> rfl
theorem ite_and_p (p : Prop) [Decidable p] (b : Bool) : (if p then b else false) = (decide p && b) := by by_cases h : p <;> simp [h]
theorem ite_or_p (p : Prop) [Decidable p] (b : Bool) : (if p then true else b) = (decide p || b) := by by_cases h : p <;> simp [h]
theorem ite_imp_p (p : Prop) [Decidable p] (b : Bool) : (if p then b else true) = (!decide p || b) := by by_cases h : p <;> simp [h]
theorem dec_t (b : Bool) [Decidable (b = true)] : decide (b = true) = b := by cases b <;> simp
theorem dec_f (b : Bool) [Decidable (b = false)] : decide (b = false) = !b := by cases b <;> simp
theorem seqB_dec (a b : ByteArray) : seqB a b = decide (a = b) := by
  by_cases h : a = b
  · subst h; simp [seqB]
  · rw [decide_eq_false h]
    cases e : seqB a b
    · rfl
    · exact absurd (seqB_eq e) h
attribute [go_sem] ite_and_p ite_or_p ite_imp_p dec_t dec_f seqB_dec Bool.decide_and Bool.decide_or decide_not
theorem beq_t (b : Bool) : (b == true) = b := by cases b <;> rfl
theorem beq_f (b : Bool) : (b == false) = !b := by cases b <;> rfl
attribute [go_sem] ite_and_b ite_or_b ite_and_b' ite_or_b' ite_imp_b beq_t beq_f Bool.not_not decide_eq_true_eq decide_eq_false_iff_not Bool.and_eq_true Bool.or_eq_true Bool.or_eq_false_iff Bool.and_eq_false_imp Bool.not_eq_true' Bool.not_eq_false'
  Bool.not_eq_true Bool.not_eq_false and_self and_imp
theorem AWp.to {C : Cfg} {c : Code} {Q : AQ} {ρ ρ' : Env} {L L' : AHeap} (h1 : ρ = ρ') (h2 : L = L') : AWp C c Q ρ L = AWp C c Q ρ' L' := by rw [h1, h2]
attribute [congr] AWp.to
theorem MVal.to {P : Program} {g g' : AV} {args args' : List AV} {L L' : AHeap} {K : AV → AHeap → Prop} (h1 : g = g') (h2 : args = args') (h3 : L = L') : MVal P g args L K = MVal P g' args' L' K := by rw [h1, h2, h3]
attribute [congr] MVal.to
theorem GCall.to {P : Program} {p p' c c' : Prop} {g g' : AV} {args args' : List AV} {L L' : AHeap} {K : AV → Prop} (h : p = p') (h0 : c = c') (h1 : g = g') (h2 : args = args') (h3 : L = L') :
    GCall P p c g args L K = GCall P p' c' g' args' L' K := by rw [h, h0, h1, h2, h3]
attribute [congr] GCall.to

theorem getD_map {α : Type} {f : α → AV} {l : List α} {k : Nat} (h : k < l.length) : (l.map f).getD k .any = f l[k] := by
  simp [List.getD_eq_getElem?_getD, h]
attribute [go_sem] List.zip_nil_left List.zip_cons_cons List.append_nil List.mem_cons List.not_mem_nil or_false

/-- What a function that returns one value of what it was given leaves. -/
def ret1 (r : AV) : AV → AHeap → Prop := fun r' L' => r' = r ∧ L' = []
theorem PC.enter {P : Program} {f : FuncId} {fn : Func} {c : Code} {args : List AV} {r : AV} (N : Nat) (rs : List ResultVar) (fz : List Nat) (hf : P.funcs[f]? = some fn) (hN : fn.ntmps = N) (hr : fn.results.toList = rs)
    (hname : (fn.name == "runtime.NumGoroutine") = false) (hb : fn.body = some c) (hok : codeOk N c = true) (hargs : args.length ≤ N) (h : AWp ⟨P, N, none, fz⟩ c (retQ P rs (ret1 r)) (aenv 0 args) []) : PC P f args r := by
  subst hN; subst hr
  exact MCalls.enter fz hf hname hb hok hargs h
theorem MCalls.enter' {P : Program} {f : FuncId} {fn : Func} {c : Code} {args : List AV} {L : AHeap} {K : AV → AHeap → Prop} (N : Nat) (rs : List ResultVar) (fz : List Nat) (hf : P.funcs[f]? = some fn) (hN : fn.ntmps = N) (hr : fn.results.toList = rs)
    (hname : (fn.name == "runtime.NumGoroutine") = false) (hb : fn.body = some c) (hok : codeOk N c = true) (hargs : args.length ≤ N) (h : AWp ⟨P, N, none, fz⟩ c (retQ P rs K) (aenv 0 args) L) : MCalls P f args L K := by
  subst hN; subst hr
  exact MCalls.enter fz hf hname hb hok hargs h
/-- What is returned is a view of what was reckoned; the blocks of the mask become read-only, the others are dropped. -/
def retV (P : Program) (rs : List ResultVar) (m : List Bool) (r : AV) (ρ : Env) (L : AHeap) : Prop :=
  match aresults P ρ L rs with
  | some (c, xs) => c ∧ Vw (pickT m L) (resAV xs) r
  | none => False
theorem ret_view {P : Program} {rs : List ResultVar} {r : AV} {ρ : Env} {L : AHeap} (m : List Bool) (h : retV P rs m r ρ L) : retK P rs (ret1 r) ρ L := by
  unfold retK; unfold retV at h
  split at h
  · rename_i e; rw [e]; exact ⟨h.1, m, r, [], h.2, .none _, rfl, rfl⟩
  · exact h.elim
def retE (P : Program) (rs : List ResultVar) (r : AV) (ρ : Env) (L : AHeap) : Prop :=
  match aresults P ρ L rs with
  | some (c, xs) => c ∧ resAV xs = r
  | none => False
theorem ret_eq {P : Program} {rs : List ResultVar} {r : AV} {ρ : Env} {L : AHeap} (h : retE P rs r ρ L) : retK P rs (ret1 r) ρ L := by
  refine ret_view [] ?_
  unfold retV; unfold retE at h
  split at h
  · exact ⟨h.1, by rw [h.2]; exact .refl _⟩
  · exact h.elim
def retO (P : Program) (rs : List ResultVar) (K : AV → AHeap → Prop) (ρ : Env) (L : AHeap) : Prop :=
  match aresults P ρ L rs with
  | some (c, xs) => c ∧ K (resAV xs) L
  | none => False
theorem ret_own {P : Program} {rs : List ResultVar} {K : AV → AHeap → Prop} {ρ : Env} {L : AHeap} (h : retO P rs K ρ L) : retK P rs K ρ L := by
  unfold retK; unfold retO at h
  split at h
  · rename_i e; rw [e]; exact ⟨h.1, [], _, L, .refl _, LVw.refl _, h.2⟩
  · exact h.elim
theorem map_take_r {α β : Type} (f : α → β) (l : List α) (n : Nat) : (l.map f).take n = (l.take n).map f := List.map_take.symm
theorem map_drop_r {α β : Type} (f : α → β) (l : List α) (n : Nat) : (l.map f).drop n = (l.drop n).map f := List.map_drop.symm
theorem map_append_r {α β : Type} (f : α → β) (l r : List α) : l.map f ++ r.map f = (l ++ r).map f := List.map_append.symm
theorem toNat_1 : Int.toNat 1 = 1 := rfl
theorem toNat_2 : Int.toNat 2 = 2 := rfl
attribute [go_sem] toNat_1 toNat_2
attribute [go_sem] List.take_length map_take_r map_drop_r map_append_r
attribute [go_sem] fillAV placeF Option.isSome_some bnd I64 allocRow Option.some.injEq reduceCtorEq or_true true_or or_false false_or and_false false_and not_true_eq_false
attribute [go_sem] retV retE retO beq_iff_eq imp_self
def retS (P : Program) (rs : List ResultVar) (K : AV → AHeap → Prop) (ρ : Env) (L L2 : AHeap) : Prop :=
  match aresults P ρ L rs with
  | some (c, xs) => c ∧ K (resAV xs) L2
  | none => False
/-- Some blocks are dropped at the return. -/
theorem ret_sub {P : Program} {rs : List ResultVar} {K : AV → AHeap → Prop} {ρ : Env} {L : AHeap} (L2 : AHeap) (hs : L2.Sublist L) (h : retS P rs K ρ L L2) : retK P rs K ρ L := by
  unfold retK; unfold retS at h
  split at h
  · rename_i e; rw [e]; exact ⟨h.1, [], _, L2, .refl _, LVw.of_sub hs, h.2⟩
  · exact h.elim
attribute [go_sem] retS
end Go.AL
