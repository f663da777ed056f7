/- The layer AL, part 17: what a piece of code does not touch stays; a range over a function. No condition. -/
import Derived.Test.YtkfkdmefabefkaaAlLoops
namespace Go.AL
open Go Go.RowKit

/-! ### Blocks that a piece of code is not told of -/
theorem StW.rebase {w0 : World} {M A0 : Foot} {N : Nat} {ρ : Env} {Lr L : AHeap} {a : Act} {w : World} {A : Foot} {ds : List Nat} (h : StW w0 M A0 N ρ (Lr ++ L) a w A ds) :
    StW w (fun b => keysOf L b ∨ b ∈ ds) A N ρ L a w A ds :=
  ⟨Fr.refl _ _, fun _ h => .inl h, h.l.sub (List.sublist_append_right _ _), fun x hx => .inl (.inl ⟨x, hx, rfl⟩), h.size, h.env, h.dfs,
    fun D hD => ⟨(h.dblk D hD).1, (h.dblk D hD).2.1, fun ⟨x, hx, e⟩ => (h.dblk D hD).2.2.1 ⟨x, List.mem_append_right _ hx, e⟩, .inl (.inr hD)⟩, h.dnd⟩
theorem StW.unbase {w0 : World} {M A0 : Foot} {N : Nat} {ρ ρ' : Env} {Lr L L' : AHeap} {a a' : Act} {w w' : World} {A A' : Foot} {ds ds' : List Nat} (h : StW w0 M A0 N ρ (Lr ++ L) a w A ds)
    (k : StW w (fun b => keysOf L b ∨ b ∈ ds) A N ρ' L' a' w' A' ds') : StW w0 M A0 N ρ' (Lr ++ L') a' w' (fun b => A b ∨ A' b) ds' := by
  have hM : ∀ b, keysOf L b ∨ b ∈ ds → M b ∨ w0.heap.size ≤ b := fun b hb => by
    rcases hb with ⟨x, hx, rfl⟩ | hb
    · exact h.lown x (List.mem_append_right _ hx)
    · exact (h.dblk b hb).2.2.2
  have hsz := h.fr.size
  have hnd := h.l.nodup
  rw [List.map_append, List.nodup_append] at hnd
  have hAM : ∀ b, A b → ¬ (keysOf L b ∨ b ∈ ds) := fun b hb hm => by
    rcases hm with ⟨x, hx, rfl⟩ | hm
    · exact h.l.disj x (List.mem_append_right _ hx) hb
    · exact (h.dblk b hm).2.1 hb
  have hrM : ∀ x ∈ Lr, ¬ (keysOf L x.1 ∨ x.1 ∈ ds) := fun x hx hm => by
    rcases hm with ⟨y, hy, e⟩ | hm
    · exact hnd.2.2 _ (List.mem_map_of_mem hx) _ (List.mem_map_of_mem hy) e.symm
    · exact (h.dblk _ hm).2.2.1 ⟨x, List.mem_append_left _ hx, rfl⟩
  have hrlt : ∀ x ∈ Lr, x.1 < w.heap.size := fun x hx => (h.l.blk x (List.mem_append_left _ hx)).lt
  have keepA : ∀ b, A b → w'.heap[b]? = w.heap[b]? := fun b hb => k.fr.block b (h.l.abnd b hb) (hAM b hb)
  refine ⟨h.fr.trans k.fr hM, fun b hb => ?_, ⟨fun b hb => ?_, fun x hx => ?_, ?_, fun x hx => ?_⟩, fun x hx => ?_, k.size, fun i => (k.env i).later (fun _ _ => rfl) (fun _ h => .inr h), k.dfs, fun D hD => ?_, k.dnd⟩
  · rcases hb with hb | hb
    · exact h.asub b hb
    · rcases k.asub b hb with h1 | h1 | h1
      · exact h.asub b h1
      · exact .inr (hM b h1)
      · exact .inr (.inr (by omega))
  · rcases hb with hb | hb
    · exact Nat.lt_of_lt_of_le (h.l.abnd b hb) k.fr.size
    · exact k.l.abnd b hb
  · rcases List.mem_append.1 hx with hx | hx
    · rintro (hb | hb)
      · exact h.l.disj x (List.mem_append_left _ hx) hb
      · rcases k.asub _ hb with h1 | h1 | h1
        · exact h.l.disj x (List.mem_append_left _ hx) h1
        · exact hrM x hx h1
        · have := hrlt x hx; omega
    · rintro (hb | hb)
      · rcases k.lown x hx with h1 | h1
        · exact hAM _ hb h1
        · have := h.l.abnd _ hb; omega
      · exact k.l.disj x hx hb
  · rw [List.map_append, List.nodup_append]
    refine ⟨hnd.1, k.l.nodup, fun p hp q hq e => ?_⟩
    subst e
    obtain ⟨x, hx, rfl⟩ := List.mem_map.1 hp
    obtain ⟨y, hy, e⟩ := List.mem_map.1 hq
    rcases k.lown y hy with h1 | h1
    · exact hrM x hx (e ▸ h1)
    · have := hrlt x hx; omega
  · rcases List.mem_append.1 hx with hx | hx
    · exact (h.l.blk x (List.mem_append_left _ hx)).later (k.fr.block _ (hrlt x hx) (hrM x hx)) keepA (fun _ h => .inl h)
    · exact (k.l.blk x hx).later rfl (fun _ _ => rfl) (fun _ h => .inr h)
  · rcases List.mem_append.1 hx with hx | hx
    · exact h.lown x (List.mem_append_left _ hx)
    · rcases k.lown x hx with h1 | h1
      · exact hM _ h1
      · exact .inr (by omega)
  · obtain ⟨h1, h2, h3, h4⟩ := k.dblk D hD
    refine ⟨h1, ?_, ?_, ?_⟩
    · rintro (hb | hb)
      · rcases h4 with h4 | h4
        · exact hAM D hb h4
        · have := h.l.abnd D hb; omega
      · exact h2 hb
    · rintro ⟨x, hx, e⟩
      rcases List.mem_append.1 hx with hx | hx
      · rcases h4 with h4 | h4
        · exact hrM x hx (e ▸ h4)
        · have := hrlt x hx; omega
      · exact h3 ⟨x, hx, e⟩
    · rcases h4 with h4 | h4
      · exact hM D h4
      · exact .inr (by omega)

theorem AWp.frame {C : Cfg} {c : Code} {Q : AQ} {ρ : Env} {L : AHeap} (Lr : AHeap) (h : AWp C c Q ρ L) : AWp C c (fun e ρ' L'' => ∃ L', L'' = Lr ++ L' ∧ Q e ρ' L') ρ (Lr ++ L) := fun hok n w0 M A0 a w hs => by
  obtain ⟨A, ds, hs⟩ := st_iff.1 hs
  refine wpIn_mono (h hok n w _ A a w (st_iff.2 ⟨A, ds, hs.rebase⟩)) ?_
  rintro e a' w' ⟨ρ', L', hq, hk⟩
  obtain ⟨A', ds', hk⟩ := st_iff.1 hk
  exact ⟨ρ', _, ⟨L', rfl, hq⟩, st_iff.2 ⟨_, ds', hs.unbase hk⟩⟩

/-! ### A range over a function -/
/-- A function value that hands the lists of xs to its argument, one after the other, until that says no. -/
def IterC (P : Program) (g : AV) (xs : List (List AV)) : Prop :=
  ∀ (y : AV) (L : AHeap) (I : Nat → AHeap → Prop) (S : AHeap → Prop), fo y = (True, y) → I 0 L →
    (∀ (k : Nat) x L', xs[k]? = some x → I k L' → MVal P y x L' fun r L'' => (r = ab true ∧ I (k + 1) L'') ∨ (r = ab false ∧ S L'')) → MVal P g [y] L fun _ L' => I xs.length L' ∨ S L'

def jcode : Exit → Option Code
  | .ret => some .ret
  | .exit id => some (.exit id)
  | .goto t => some (.goto t)
  | _ => none
def bodyQ (I' : AHeap → Prop) (J : Exit → AHeap → Prop) : AQ
  | .normal, _, L => ∃ L', L'.Sublist L ∧ I' L'
  | .panic _, _, _ => False
  | .outgrown, _, _ => False
  | e, _, L => ∃ L', L'.Sublist L ∧ J e L'
def noQ : AQ := fun _ _ _ => False
def putAll : List Nat → List AV → Env → Env
  | p :: ps, x :: xs, ρ => putAll ps xs ((p, x) :: ρ)
  | _, _, ρ => ρ

theorem putAll_ok {w : World} {A : Foot} {N : Nat} : ∀ (ps : List Nat) (xs : List AV) (us : List Value) (ρ : Env) (tmps : Array Value), ps.all (fun p => decide (p < N)) = true → Rels w A xs us → ps.length = xs.length → tmps.size = N →
    (∀ i, Rel w A (get ρ i) (tmps.getD i undef)) → ((ps.zip us).foldl (fun tmps (t, a) => tmps.setIfInBounds t a) tmps).size = N ∧
      ∀ i, Rel w A (get (putAll ps xs ρ) i) (((ps.zip us).foldl (fun tmps (t, a) => tmps.setIfInBounds t a) tmps).getD i undef)
  | [], xs, us, ρ, tmps, _, _, _, hs, hρ => ⟨hs, by cases xs <;> exact hρ⟩
  | p :: ps, [], us, ρ, tmps, _, _, hl, _, _ => by simp at hl
  | p :: ps, x :: xs, us, ρ, tmps, hp, hr, hl, hs, hρ => by
    obtain ⟨u, us', rfl, h1, h2⟩ := hr.inv_cons
    simp only [List.all_cons, Bool.and_eq_true, decide_eq_true_eq] at hp
    refine putAll_ok ps xs us' ((p, x) :: ρ) (tmps.setIfInBounds p u) hp.2 h2 (by simpa using hl) (by simpa using hs) fun i => ?_
    simp only [get]
    by_cases hi : i = p
    · subst hi
      rw [if_pos rfl]
      have : i < tmps.size := by rw [hs]; exact hp.1
      simpa [Array.getD, this] using h1
    · rw [if_neg hi]
      have := hρ i
      simpa [Array.getD_eq_getD_getElem?, Array.getElem?_setIfInBounds_ne (Ne.symm hi)] using this

theorem keep_ok {w : World} {A : Foot} {ks : List Nat} {cs : List AV} {us : Array Value} (h : ∀ (i : Nat) k c, ks[i]? = some k → cs[i]? = some c → Rel w A c (us.getD k undef)) : ∀ i, Rel w A (get (ks.zip cs) i) (us.getD i undef) := by
  intro i
  induction ks generalizing cs with
  | nil => exact .any _
  | cons k ks ih =>
    cases cs with
    | nil => exact .any _
    | cons c cs =>
      simp only [List.zip_cons_cons, get]
      split
      · rename_i e; subst e; exact h 0 _ _ rfl rfl
      · exact ih fun j k c hj hc => h (j + 1) k c (by simpa using hj) (by simpa using hc)
theorem keep_zip (ks : List Nat) (ρ : Env) : ks.zip (ks.map (get ρ)) = keep ks ρ := by
  induction ks with
  | nil => rfl
  | cons k ks ih => simp only [keep, List.map_cons, List.zip_cons_cons] at *; rw [ih]

/-- An owned object is replaced by another. -/
theorem StW.setObj {w0 : World} {M A0 : Foot} {N : Nat} {ρ : Env} {L : AHeap} {a : Act} {w : World} {A : Foot} {ds : List Nat} {l : Nat} {o o' : Obj} (h : StW w0 M A0 N ρ ((l, .obj o) :: L) a w A ds) :
    StW w0 M A0 N ρ ((l, .obj o') :: L) a (w.putObj l o') A ds := by
  have hlt := (h.l.blk (l, .obj o) List.mem_cons_self).lt
  have := h.set (b := l) (old := .obj o) (x := .obj o') (by simp [lk]) (w' := w.putObj l o') (fun m hm => World.putObj_heap_other hm) (by simp) rfl rfl rfl (World.putObj_heap_same hlt)
  simpa [upd] using this

/-- The mark of an outermost loop is laid onto the activation's deferred calls. -/
theorem StW.mark {w0 : World} {M A0 : Foot} {N : Nat} {ρ : Env} {L : AHeap} {a : Act} {w : World} {A : Foot} {ds : List Nat} {D : Nat} (h : StW w0 M A0 N ρ ((D, .obj (.deferred (some []))) :: L) a w A ds) :
    StW w0 M A0 N ρ L { a with defers := [{ target := .collected D, args := #[] }] ++ a.defers } w A (D :: ds) := by
  have hs := h.sub (List.sublist_cons_self _ _)
  have hn := h.l.nodup
  simp only [List.map_cons, List.nodup_cons] at hn
  refine ⟨hs.fr, hs.asub, hs.l, hs.lown, hs.size, hs.env, by simp [h.dfs], fun E hE => ?_, List.nodup_cons.2 ⟨fun hD => (h.dblk D hD).2.2.1 ⟨_, List.mem_cons_self, rfl⟩, h.dnd⟩⟩
  rcases List.mem_cons.1 hE with rfl | hE
  · refine ⟨h.l.blk _ List.mem_cons_self, h.l.disj _ List.mem_cons_self, fun ⟨x, hx, e⟩ => hn.1 (e ▸ List.mem_map_of_mem hx), h.lown _ List.mem_cons_self⟩
  · exact hs.dblk E hE

theorem AWp.rangeFunc {C : Cfg} {g : Operand} {ps : Array Tmp} {assign body : Code} {Q : AQ} {ρ : Env} {L : AHeap} (hr : C.r = none) (ks : List Nat) {f : FuncId} {caps : List AV} (xs : List (List AV)) (I : Nat → AHeap → Prop) (J : Exit → AHeap → Prop)
    (hgc : fo (ev ρ g) = (True, .clo f caps)) (hg : IterC C.P (.clo f caps) xs) (hxs : ∀ x ∈ xs, x.length = ps.size) (h0 : I 0 L)
    (round : ∀ (k : Nat) x L' l, xs[k]? = some x → I k L' → AWp { C with r := some l } assign (thenQ (AWp { C with r := some l } body (bodyQ (I (k + 1)) J)) noQ) (putAll ps.toList x (keep ks ρ)) L')
    (done : ∀ L', I xs.length L' → Q .normal ρ L') (jump : ∀ e L', J e L' → Q e ρ L') : AWp C (.rangeFunc g ps assign body) Q ρ L := by
  intro hok n w0 M A0 a w hs
  simp only [codeOk, Bool.and_eq_true] at hok
  obtain ⟨⟨hps, hok1⟩, hok2⟩ := hok
  obtain ⟨A, ds, hs⟩ := st_iff.1 hs
  rw [hr]
  refine wpIn_rangeFunc fun fn _ => ?_
  generalize hD : w.heap.size = D
  let rec0 : Loop := { state := .ready, pending := none, fn, tmps := a.tmps, params := ps, assign, body, defers := D }
  have hs1 := hs.alloc (o := .deferred (some [])) (x := .obj (.deferred (some []))) (World.alloc_heap_new _ _)
  have hs2 := hs1.alloc (o := .loop rec0) (x := .obj (.loop rec0)) (World.alloc_heap_new _ _)
  have hsz1 : (w.alloc (.deferred (some []))).heap.size = D + 1 := by rw [World.size_alloc, hD]
  rw [hsz1, hD] at hs2
  generalize hw2 : (w.alloc (.deferred (some []))).alloc (.loop rec0) = w2 at hs2
  have hgr : Rel w2 A (.clo f caps) (a.eval g) := by
    have := fo_ok (hs2.ev g) (by rw [hgc]; trivial)
    rwa [hgc] at this
  let y : AV := .yl (D + 1) a.tmps ks (ks.map (get ρ))
  let I1 : Nat → AHeap → Prop := fun k L' => ∃ L2, L' = (D + 1, .obj (.loop rec0)) :: (D, .obj (.deferred (some []))) :: L2 ∧ I k L2
  let S1 : AHeap → Prop := fun L' => ∃ L2 e c, L' = (D + 1, .obj (.loop { rec0 with state := .done, pending := some c })) :: (D, .obj (.deferred (some []))) :: L2 ∧ jcode e = some c ∧ J e L2
  have hround : ∀ (k : Nat) x L', xs[k]? = some x → I1 k L' → MVal C.P y x L' fun r L'' => (r = ab true ∧ I1 (k + 1) L'') ∨ (r = ab false ∧ S1 L'') := by
    rintro k x L' hx ⟨L2, rfl, hI⟩ m w' A' gv vs hL hyr hvs
    have hyr' : gv = .func (.yield (D + 1)) #[] #[] ∧ ∀ (i : Nat) k c, ks[i]? = some k → (ks.map (get ρ))[i]? = some c → Rel w' A' c (a.tmps.getD k undef) := by
      have hy : y = .yl (D + 1) a.tmps ks (ks.map (get ρ)) := rfl
      rw [hy] at hyr
      cases hyr with
      | yl _ _ _ _ hcap => exact ⟨rfl, hcap⟩
    obtain ⟨rfl, hcap⟩ := hyr'
    have hrec : w'.heap[D + 1]? = some (.loop rec0) := hL.blk _ List.mem_cons_self
    have hxl := hxs x (List.mem_of_getElem? hx)
    have hvl : vs.toArray.size = rec0.params.size := by simp [hvs.1, hxl, rec0]
    refine ⟨rfl, rfl, fn, _, assign, body, run_yield hrec hvl, roundIn_of_wpIn trivial ?_⟩
    have henv := keep_ok hcap
    rw [keep_zip] at henv
    have hput := putAll_ok ps.toList x vs (keep ks ρ) a.tmps hps hvs (by simp [hxl]) hs.size henv
    have hfold : (rec0.params.zip vs.toArray).foldl (fun tmps (t, a) => tmps.setIfInBounds t a) rec0.tmps = (ps.toList.zip vs).foldl (fun tmps (t, a) => tmps.setIfInBounds t a) a.tmps := by
      show (ps.zip vs.toArray).foldl (fun tmps (t, a) => tmps.setIfInBounds t a) a.tmps = _
      rw [← Array.foldl_toList]
      simp
    rw [hfold]
    have hst : StW w' (keysOf ((D + 1, .obj (.loop rec0)) :: (D, .obj (.deferred (some []))) :: L2)) A' C.N (putAll ps.toList x (keep ks ρ)) ((D + 1, .obj (.loop rec0)) :: (D, .obj (.deferred (some []))) :: L2)
        { tmps := (ps.toList.zip vs).foldl (fun tmps (t, a) => tmps.setIfInBounds t a) a.tmps, defers := [] } w' A' [] :=
      ⟨Fr.refl _ _, fun _ h => .inl h, hL, fun x hx => .inl ⟨x, hx, rfl⟩, hput.1, hput.2, rfl, fun D hD => (by cases hD), .nil⟩
    have hwp := (round k x L2 (D + 1) hx hI).frame [(D + 1, .obj (.loop rec0)), (D, .obj (.deferred (some [])))] hok1 m w' _ A' _ w' (st_iff.2 ⟨A', [], hst⟩)
    refine wpIn_mono hwp ?_
    rintro e a1 wa ⟨ρ1, _, ⟨L1, rfl, hq⟩, hsa⟩
    cases e with
    | normal =>
      obtain ⟨Aa, da, hsa⟩ := st_iff.1 hsa
      have hreca : wa.heap[D + 1]? = some (.loop rec0) := hsa.l.blk _ List.mem_cons_self
      refine ⟨_, run_beginRound hreca rfl, ?_⟩
      have hsb := hsa.setObj (o' := .loop { rec0 with state := .busy })
      have hwb := (show AWp { C with r := some (D + 1) } body (bodyQ (I (k + 1)) J) ρ1 L1 from hq).frame [(D + 1, .obj (.loop { rec0 with state := .busy })), (D, .obj (.deferred (some [])))] hok2 m w' _ A' a1 _ (st_iff.2 ⟨Aa, da, hsb⟩)
      refine wpIn_mono hwb ?_
      rintro e2 a2 wb ⟨ρ2, _, ⟨Lb, rfl, hq2⟩, hsc⟩
      obtain ⟨Ac, dc, hsc⟩ := st_iff.1 hsc
      have hrecb : wb.heap[D + 1]? = some (.loop { rec0 with state := .busy }) := hsc.l.blk _ List.mem_cons_self
      have fin : ∀ (j : Option Code) (L3 : AHeap), L3.Sublist Lb → ((j = none ∧ I (k + 1) L3) ∨ ∃ e c, j = some c ∧ jcode e = some c ∧ J e L3) →
          ∃ v w3, (Instr.endRound (D + 1) j).run C.P wb = .ok v w3 ∧ cpost w' A' ((D + 1, .obj (.loop rec0)) :: (D, .obj (.deferred (some []))) :: L2) (fun r L'' => (r = ab true ∧ I1 (k + 1) L'') ∨ (r = ab false ∧ S1 L'')) (.returned v) w3 := fun j L3 hsub hj => by
        have hsd := (hsc.setObj (o' := .loop { rec0 with state := if j.isNone then .ready else .done, pending := j })).sub (List.Sublist.cons_cons _ (List.Sublist.cons_cons _ hsub))
        refine ⟨_, _, run_endRound j hrecb, .bool j.isNone, ab j.isNone, _, Ac, rfl, ?_, hsd.fr, hsd.asub, hsd.l, hsd.lown, .v _⟩
        rcases hj with ⟨rfl, hI'⟩ | ⟨e, c, rfl, hc, hJ⟩
        · exact .inl ⟨rfl, L3, rfl, hI'⟩
        · exact .inr ⟨rfl, L3, e, c, rfl, hc, hJ⟩
      cases e2 with
      | normal => obtain ⟨L3, h1, h2⟩ := hq2; exact fin none L3 h1 (.inl ⟨rfl, h2⟩)
      | ret => obtain ⟨L3, h1, h2⟩ := hq2; exact fin (some .ret) L3 h1 (.inr ⟨.ret, _, rfl, rfl, h2⟩)
      | exit id => obtain ⟨L3, h1, h2⟩ := hq2; exact fin (some (.exit id)) L3 h1 (.inr ⟨.exit id, _, rfl, rfl, h2⟩)
      | goto t => obtain ⟨L3, h1, h2⟩ := hq2; exact fin (some (.goto t)) L3 h1 (.inr ⟨.goto t, _, rfl, rfl, h2⟩)
      | panic c => exact hq2.elim
      | outgrown => exact hq2.elim
    | exit id => exact hq.elim
    | goto l => exact hq.elim
    | ret => exact hq.elim
    | panic c => exact hq.elim
    | outgrown => exact hq.elim
  have hM := hg y _ I1 S1 rfl ⟨L, rfl, h0⟩ hround (n - 1) w2 A (a.eval g) [.func (.yield (D + 1)) #[] #[]] hs2.l hgr
    (Rels.cons (.yl _ _ _ _ fun i k c hk hc => by
      rw [List.getElem?_map, hk] at hc
      cases hc
      exact hs2.env k) Rels.nil)
  have hgv : ∃ us, a.eval g = .func (.func f) #[] us := by
    generalize a.eval g = u at hgr
    cases hgr with
    | clo _ _ us => exact ⟨us, rfl⟩
  obtain ⟨us, hgv⟩ := hgv
  rw [hgv] at hM
  obtain ⟨-, hen, hc⟩ := hM
  have hhen := hen (#[.func (.yield (D + 1)) #[] #[]] ++ us) w2
  refine ⟨D + 1, [{ target := .collected D, args := #[] }], w2, { target := .fn (.func f) us, args := #[.func (.yield (D + 1)) #[] #[]] }, w2, f, _, w2, ?_, ?_, fun _ _ => trivial, ?_, fun h => by simp [Fw, Fence.wide] at h, hc.mono ?_⟩
  · have := run_enterLoop_outer (P := C.P) (w := w) fn a.tmps ps assign body
    rw [hD] at this
    rw [← hw2]
    exact this
  · have he : a.eval (.const (.func (.yield (D + 1)) #[] #[])) = .func (.yield (D + 1)) #[] #[] := rfl
    simp [resolve, hgv, he, Deferred.ofValue]
  · simpa [invoke] using hhen
  · intro e w3 hp
    obtain ⟨v, r, L', A', rfl, hK, hs3, -⟩ := hs2.behind hp
    have fin : ∀ (j : Option Code) (st : LoopState) (L2 : AHeap), L' = (D + 1, .obj (.loop { rec0 with state := st, pending := j })) :: (D, .obj (.deferred (some []))) :: L2 → st ≠ .busy →
        ∃ w4, (Instr.endLoop (D + 1)).run C.P w3 = .ok j w4 ∧ St w0 M A0 C.N ρ L2 { a with defers := [{ target := .collected D, args := #[] }] ++ a.defers } w4 := fun j st L2 hL hb => by
      subst hL
      have hrec : w3.heap[D + 1]? = some (.loop { rec0 with state := st, pending := j }) := hs3.l.blk _ List.mem_cons_self
      have hs4 := (hs3.setObj (o' := .loop { rec0 with state := .exhausted, pending := j })).sub (List.sublist_cons_self _ _)
      exact ⟨_, run_endLoop hrec hb, st_iff.2 ⟨_, _, hs4.mark⟩⟩
    rcases hK with ⟨L2, hL, hI⟩ | ⟨L2, e, c, hL, hjc, hJ⟩
    · obtain ⟨w4, h1, h2⟩ := fin none .ready L2 hL (by simp)
      exact ⟨none, w4, h1, ρ, L2, done L2 hI, h2⟩
    · obtain ⟨w4, h1, h2⟩ := fin (some c) .done L2 hL (by simp)
      refine ⟨some c, w4, h1, ?_⟩
      have hq : cq C w0 M A0 Q e { a with defers := [{ target := .collected D, args := #[] }] ++ a.defers } w4 := ⟨ρ, L2, jump e L2 hJ, h2⟩
      cases e with
      | ret => simp only [jcode] at hjc; cases hjc; exact wpIn_ret hq
      | exit id => simp only [jcode] at hjc; cases hjc; exact wpIn_exit hq
      | goto t => simp only [jcode] at hjc; cases hjc; exact wpIn_goto hq
      | normal => simp [jcode] at hjc
      | panic c => simp [jcode] at hjc
      | outgrown => simp [jcode] at hjc
theorem cpost.permOut {w : World} {A : Foot} {L : AHeap} {K K2 : AV → AHeap → Prop} {e : Ending} {w' : World} (h : cpost w A L K e w') (hk : ∀ r L', K r L' → ∃ L2, L'.Perm L2 ∧ K2 r L2) : cpost w A L K2 e w' := by
  obtain ⟨v, r, L', A', h1, h2, h3, h4, h5, h6, h7⟩ := h
  obtain ⟨L2, hp, h2'⟩ := hk r L' h2
  exact ⟨v, r, L2, A', h1, h2', h3, h4, h5.perm hp, fun x hx => h6 x (hp.mem_iff.2 hx), h7⟩
/-- A call for which some blocks (Lf) become read-only for good; others (Lr) are out of its sight. -/
theorem MVal.pass {P : Program} {g : AV} {args args' : List AV} {L Lf Li Lr : AHeap} {K K2 : AV → AHeap → Prop} (hp : L.Perm (Lf ++ (Li ++ Lr))) (hv : Vws Lf args args') (h : MVal P g args' Li K)
    (hk : ∀ r L1, K r L1 → ∃ L2, (L1 ++ Lr).Perm L2 ∧ K2 r L2) : MVal P g args L K2 := fun n w A gv vs hL hgr hr => by
  have h1 := (MVal.frame (Lr := Lr) h)
  have hL1 : LRel w (fun b => A b ∨ keysOf Lf b) (Li ++ Lr) := hL.viewed hp (LVw.refl _)
  have hr1 : Rels w (fun b => A b ∨ keysOf Lf b) args' vs := ⟨by rw [hr.1, hv.1], fun i a' u ha' hu => by
    have hx := List.getElem?_eq_getElem (show i < args.length by have := hv.1; have := (List.getElem?_eq_some_iff.1 ha').1; omega)
    exact hL.view hp (hv.2 i _ _ hx ha') (hr.2 i _ _ hx hu)⟩
  refine (h1 n w _ gv vs hL1 (hgr.later (fun _ _ => rfl) (fun _ h => .inl h)) hr1).mono fun e w' hc => ?_
  have hc := hc.permOut (K2 := K2) (fun r L' ⟨L1, e1, hK⟩ => by subst e1; exact hk r L1 hK)
  obtain ⟨v, r, L', A', h1, h2, h3, h4, h5, h6, h7⟩ := hc
  have hsub : ∀ b, keysOf (Li ++ Lr) b → keysOf L b := fun b ⟨x, hx, e⟩ => ⟨x, hp.mem_iff.2 (List.mem_append_right _ hx), e⟩
  refine ⟨v, r, L', A', h1, h2, ⟨h3.os, h3.tape, h3.output, h3.size, fun k hk hn => h3.block k hk fun hh => hn (hsub k hh)⟩, fun b hb => ?_, h5, fun x hx => (h6 x hx).imp (hsub _) id, h7⟩
  rcases h4 b hb with (h | ⟨x, hx, e⟩) | h | h
  · exact .inl h
  · exact .inr (.inl ⟨x, hp.mem_iff.2 (List.mem_append_left _ hx), e⟩)
  · exact .inr (.inl (hsub b h))
  · exact .inr (.inr h)
attribute [go_sem] putAll bodyQ noQ
end Go.AL
