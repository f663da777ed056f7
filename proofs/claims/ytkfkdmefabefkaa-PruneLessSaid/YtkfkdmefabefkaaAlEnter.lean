/- The layer AL, part 14: functions entered and left; contracts used; memory that becomes read-only. No condition. -/
import Derived.Test.YtkfkdmefabefkaaAlFun
import Derived.RangeFuncLeaves
namespace Go.AL
open Go Go.RowKit

/-! ### Some blocks of L -/
def pickT : List Bool → AHeap → AHeap
  | true :: m, x :: L => x :: pickT m L
  | false :: m, _ :: L => pickT m L
  | _, _ => []
def pickF : List Bool → AHeap → AHeap
  | true :: m, _ :: L => pickF m L
  | false :: m, x :: L => x :: pickF m L
  | [], L => L
  | _, [] => []
theorem pick_perm : ∀ (m : List Bool) (L : AHeap), L.Perm (pickT m L ++ pickF m L)
  | [], L => by simp [pickT, pickF]
  | true :: m, [] => by simp [pickT, pickF]
  | false :: m, [] => by simp [pickT, pickF]
  | true :: m, x :: L => by simpa [pickT, pickF] using pick_perm m L
  | false :: m, x :: L => by
    simp only [pickT, pickF]
    exact ((pick_perm m L).cons x).trans List.perm_middle.symm

/-- Blocks told otherwise, or forgotten. -/
inductive LVw (Lf : AHeap) : AHeap → AHeap → Prop
  | nil : LVw Lf [] []
  | drop {x : Nat × ABlk} {L L' : AHeap} (h : LVw Lf L L') : LVw Lf (x :: L) L'
  | same {x : Nat × ABlk} {L L' : AHeap} (h : LVw Lf L L') : LVw Lf (x :: L) (x :: L')
  | row {b k cap : Nat} {t : TypeId} {xs xs' : List AV} {L L' : AHeap} (hv : Vws Lf xs xs') (h : LVw Lf L L') : LVw Lf ((b, .row t k xs cap) :: L) ((b, .row t k xs' cap) :: L')
  | amap {b : Nat} {ks : List Value} {vs vs' : List AV} {L L' : AHeap} (hv : Vws Lf vs vs') (h : LVw Lf L L') : LVw Lf ((b, .amap ks vs) :: L) ((b, .amap ks vs') :: L')
theorem LVw.refl {Lf : AHeap} : ∀ (L : AHeap), LVw Lf L L
  | [] => .nil
  | _ :: L => .same (LVw.refl L)
theorem LVw.none {Lf : AHeap} : ∀ (L : AHeap), LVw Lf L []
  | [] => .nil
  | _ :: L => .drop (LVw.none L)
theorem LVw.of_sub {Lf L L' : AHeap} (h : L'.Sublist L) : LVw Lf L L' := by
  induction h with
  | slnil => exact .nil
  | cons x _ ih => exact .drop ih
  | cons_cons x _ ih => exact .same ih

section
variable {w : World} {A : Foot} {L : AHeap}
theorem LRel.perm {L' : AHeap} (h : LRel w A L) (hp : L.Perm L') : LRel w A L' :=
  ⟨h.abnd, fun x hx => h.disj x (hp.mem_iff.2 hx), (hp.map _).nodup_iff.1 h.nodup, fun x hx => h.blk x (hp.mem_iff.2 hx)⟩

theorem BlkRel.row_view {A' : Foot} {Lf : AHeap} {b k cap : Nat} {t : TypeId} {xs xs' : List AV} (hv : Vws Lf xs xs') (hL : ∀ b x, lk Lf b = some x → BlkRel w A b x ∧ A' b) (hA : ∀ b, A b → A' b)
    (h : BlkRel w A b (.row t k xs cap)) : BlkRel w A' b (.row t k xs' cap) := by
  obtain ⟨c, h1, h2, h3, h4, h5, h6⟩ := h
  have hx : ∀ i, i < xs'.length → ∃ x, xs[i]? = some x := fun i hi => ⟨_, List.getElem?_eq_getElem (show i < xs.length by have := hv.1; omega)⟩
  refine ⟨c, h1, h2, by have := hv.1; omega, h4, fun y hy => ?_, fun i y j c' u hy hc' hu => ?_⟩
  · obtain ⟨i, hi⟩ := List.getElem?_of_mem hy
    obtain ⟨x, hxx⟩ := hx i (List.getElem?_eq_some_iff.1 hi).1
    exact (hv.2 i _ _ hxx hi).elOk (h5 _ (List.mem_of_getElem? hxx))
  · obtain ⟨x, hxx⟩ := hx i (List.getElem?_eq_some_iff.1 hy).1
    have hvw := hv.2 i _ _ hxx hy
    have hj : j < x.cells.length := by have := (List.getElem?_eq_some_iff.1 hc').1; have := hvw.el.1; omega
    exact (Rel.view2 hvw hL hA).2 j _ _ u (List.getElem?_eq_getElem hj) hc' (h6 i x j _ u hxx (List.getElem?_eq_getElem hj) hu)
theorem BlkRel.amap_view {A' : Foot} {Lf : AHeap} {b : Nat} {ks : List Value} {xs xs' : List AV} (hv : Vws Lf xs xs') (hL : ∀ b x, lk Lf b = some x → BlkRel w A b x ∧ A' b) (hA : ∀ b, A b → A' b)
    (h : BlkRel w A b (.amap ks xs)) : BlkRel w A' b (.amap ks xs') := by
  obtain ⟨es, clock, h1, h2, h3, h4, h5, h6⟩ := h
  refine ⟨es, clock, h1, h2, hv.1.trans h3, h4, h5, fun i y e hy he => ?_⟩
  have hxx := List.getElem?_eq_getElem (show i < xs.length by have := hv.1; have := (List.getElem?_eq_some_iff.1 hy).1; omega)
  exact Rel.view (hv.2 i _ _ hxx hy) hL hA (h6 i _ e hxx he)

theorem LVw.keys {Lf L L' : AHeap} (h : LVw Lf L L') : (L'.map (·.1)).Sublist (L.map (·.1)) := by
  induction h with
  | nil => exact .slnil
  | drop _ ih => exact .cons _ ih
  | same _ ih => exact .cons_cons _ ih
  | row _ _ ih => exact .cons_cons _ ih
  | amap _ _ ih => exact .cons_cons _ ih

theorem LRel.viewed {Lf Lk L' : AHeap} (h : LRel w A L) (hp : L.Perm (Lf ++ Lk)) (hv : LVw Lf Lk L') : LRel w (fun b => A b ∨ keysOf Lf b) L' := by
  have h := h.perm hp
  have hsub := hv.keys
  have hLf : ∀ b x, AL.lk Lf b = some x → BlkRel w A b x ∧ (A b ∨ keysOf Lf b) := fun b x hx => ⟨h.blk (b, x) (List.mem_append_left _ (lk_mem hx)), .inr ⟨_, lk_mem hx, rfl⟩⟩
  have hnd := h.nodup
  rw [List.map_append, List.nodup_append] at hnd
  refine ⟨fun b hb => ?_, fun x hx => ?_, hnd.2.1.sublist hsub, ?_⟩
  · rcases hb with hb | ⟨x, hx, rfl⟩
    · exact h.abnd b hb
    · exact (h.blk x (List.mem_append_left _ hx)).lt
  · have hk : x.1 ∈ Lk.map (·.1) := hsub.subset (List.mem_map_of_mem hx)
    rintro (hb | ⟨y, hy, e⟩)
    · obtain ⟨z, hz, e⟩ := List.mem_map.1 hk
      exact h.disj z (List.mem_append_right _ hz) (e ▸ hb)
    · exact hnd.2.2 _ (List.mem_map_of_mem hy) _ hk e
  · have hblk : ∀ x ∈ Lk, BlkRel w A x.1 x.2 := fun x hx => h.blk x (List.mem_append_right _ hx)
    clear hsub hnd h hp
    induction hv with
    | nil => intro x hx; cases hx
    | drop _ ih => exact ih (fun x hx => hblk x (List.mem_cons_of_mem _ hx))
    | same _ ih =>
      intro x hx
      rcases List.mem_cons.1 hx with rfl | hx
      · exact (hblk _ List.mem_cons_self).later rfl (fun _ _ => rfl) (fun _ h => .inl h)
      · exact ih (fun x hx => hblk x (List.mem_cons_of_mem _ hx)) x hx
    | row hvs _ ih =>
      intro x hx
      rcases List.mem_cons.1 hx with rfl | hx
      · exact BlkRel.row_view hvs hLf (fun _ h => .inl h) (hblk _ List.mem_cons_self)
      · exact ih (fun x hx => hblk x (List.mem_cons_of_mem _ hx)) x hx
    | amap hvs _ ih =>
      intro x hx
      rcases List.mem_cons.1 hx with rfl | hx
      · exact BlkRel.amap_view hvs hLf (fun _ h => .inl h) (hblk _ List.mem_cons_self)
      · exact ih (fun x hx => hblk x (List.mem_cons_of_mem _ hx)) x hx
theorem LRel.view {Lf Lk : AHeap} (h : LRel w A L) (hp : L.Perm (Lf ++ Lk)) {a a' : AV} {u : Value} (hv : Vw Lf a a') (hr : Rel w A a u) : Rel w (fun b => A b ∨ keysOf Lf b) a' u :=
  Rel.view hv (fun _ x hx => ⟨(h.perm hp).blk (_, x) (List.mem_append_left _ (lk_mem hx)), .inr ⟨_, lk_mem hx, rfl⟩⟩) (fun _ h => .inl h) hr
end

section
variable {w0 : World} {M A0 : Foot} {N : Nat} {ρ : Env} {L : AHeap} {a : Act} {w : World} {A : Foot} {ds : List Nat}
/-- Blocks of L become read-only; slots and other blocks may be told as views. -/
theorem StW.view (h : StW w0 M A0 N ρ L a w A ds) {Lf Lk L' : AHeap} {ρ' : Env} (hp : L.Perm (Lf ++ Lk)) (hv : LVw Lf Lk L') (hρ : ∀ i, get ρ' i = .any ∨ Vw Lf (get ρ i) (get ρ' i)) :
    StW w0 M A0 N ρ' L' a w (fun b => A b ∨ keysOf Lf b) ds := by
  have hin : ∀ b, keysOf Lf b → keysOf L b := fun b ⟨x, hx, e⟩ => ⟨x, hp.mem_iff.2 (List.mem_append_left _ hx), e⟩
  have h1 := h.advance (Fr.refl w _) (fun _ h => .inl h) (fun b hb => hb.elim .inl (fun hb => .inr (.inl (hin b hb)))) (h.l.viewed hp hv) (fun x hx => by
    obtain ⟨z, hz, e⟩ := List.mem_map.1 (hv.keys.subset (List.mem_map_of_mem hx))
    exact .inl ⟨z, hp.mem_iff.2 (List.mem_append_right _ hz), e⟩)
  refine ⟨h1.fr, h1.asub, h1.l, h1.lown, h1.size, fun i => ?_, h1.dfs, h1.dblk, h1.dnd⟩
  rcases hρ i with e | hvw
  · rw [e]; exact .any _
  · exact h.l.view hp hvw (h.env i)
theorem st_view (h : St w0 M A0 N ρ L a w) {Lf Lk L' : AHeap} {ρ' : Env} (hp : L.Perm (Lf ++ Lk)) (hv : LVw Lf Lk L') (hρ : ∀ i, get ρ' i = .any ∨ Vw Lf (get ρ i) (get ρ' i)) : St w0 M A0 N ρ' L' a w :=
  let ⟨_, _, h⟩ := st_iff.1 h
  st_iff.2 ⟨_, _, h.view hp hv hρ⟩
end

/-- Ghost step: the blocks of the mask become read-only; the slots of the list are told as views. -/
theorem AWp.view {C : Cfg} {c : Code} {Q : AQ} {ρ : Env} {L L' : AHeap} (m : List Bool) (sv : List (Nat × AV)) (hv : LVw (pickT m L) (pickF m L) L') (hs : ∀ p ∈ sv, Vw (pickT m L) (get ρ p.1) p.2)
    (h : AWp C c Q (sv ++ ρ) L') : AWp C c Q ρ L := by
  refine AWp.st (fun w0 M A0 a w hst => st_view hst (pick_perm m L) hv fun i => .inr ?_) h
  clear h
  induction sv with
  | nil => exact .refl _
  | cons p sv ih =>
    obtain ⟨j, x⟩ := p
    simp only [List.cons_append, get]
    split
    · rename_i e; subst e; exact hs (i, x) List.mem_cons_self
    · exact ih fun p hp => hs p (List.mem_cons_of_mem _ hp)

/-! ### Calls: the memory that is not handed over -/
theorem cpost.frame {w : World} {A : Foot} {Lm Lr : AHeap} {K : AV → AHeap → Prop} (h : LRel w A (Lm ++ Lr)) {e : Ending} {w' : World} (hp : cpost w A Lm K e w') :
    cpost w A (Lm ++ Lr) (fun r L' => ∃ L1, L' = L1 ++ Lr ∧ K r L1) e w' := by
  obtain ⟨v, r, L1, A', rfl, hK, hf, hA, hL, hk, hr⟩ := hp
  have hnd := h.nodup
  rw [List.map_append, List.nodup_append] at hnd
  have hm : ∀ b, keysOf Lm b → keysOf (Lm ++ Lr) b := fun b ⟨x, hx, e⟩ => ⟨x, List.mem_append_left _ hx, e⟩
  have hnm : ∀ x ∈ Lr, ¬ keysOf Lm x.1 := fun x hx ⟨y, hy, e⟩ => hnd.2.2 _ (List.mem_map_of_mem hy) _ (List.mem_map_of_mem hx) e
  have keepA : ∀ b, A b → w'.heap[b]? = w.heap[b]? := fun b hb => hf.block b (h.abnd b hb) (fun ⟨x, hx, e⟩ => h.disj x (List.mem_append_left _ hx) (e ▸ hb))
  refine ⟨v, r, L1 ++ Lr, fun b => A b ∨ A' b, rfl, ⟨L1, rfl, hK⟩, ⟨hf.os, hf.tape, hf.output, hf.size, fun k hk hn => hf.block k hk (fun hh => hn (hm k hh))⟩, fun b hb => ?_, ⟨fun b hb => ?_, fun x hx => ?_, ?_, fun x hx => ?_⟩, fun x hx => ?_, hr.later (fun _ _ => rfl) (fun _ h => .inr h)⟩
  · rcases hb with hb | hb
    · exact .inl hb
    · rcases hA b hb with h1 | h1 | h1
      · exact .inl h1
      · exact .inr (.inl (hm b h1))
      · exact .inr (.inr h1)
  · rcases hb with hb | hb
    · exact Nat.lt_of_lt_of_le (h.abnd b hb) hf.size
    · exact hL.abnd b hb
  · rcases List.mem_append.1 hx with hx | hx
    · rintro (hb | hb)
      · rcases hk x hx with ⟨y, hy, e⟩ | h1
        · exact h.disj y (List.mem_append_left _ hy) (e ▸ hb)
        · have := h.abnd _ hb; omega
      · exact hL.disj x hx hb
    · rintro (hb | hb)
      · exact h.disj x (List.mem_append_right _ hx) hb
      · rcases hA _ hb with h1 | h1 | h1
        · exact h.disj x (List.mem_append_right _ hx) h1
        · exact hnm x hx h1
        · have := (h.blk x (List.mem_append_right _ hx)).lt; omega
  · rw [List.map_append, List.nodup_append]
    refine ⟨hL.nodup, hnd.2.1, fun p hp q hq e => ?_⟩
    subst e
    obtain ⟨x, hx, rfl⟩ := List.mem_map.1 hp
    obtain ⟨y, hy, e⟩ := List.mem_map.1 hq
    rcases hk x hx with h1 | h1
    · exact hnm y hy (e ▸ h1)
    · have := (h.blk y (List.mem_append_right _ hy)).lt; omega
  · rcases List.mem_append.1 hx with hx | hx
    · exact (hL.blk x hx).later rfl (fun _ _ => rfl) (fun _ h => .inr h)
    · have hlt := (h.blk x (List.mem_append_right _ hx)).lt
      exact (h.blk x (List.mem_append_right _ hx)).later (hf.block _ hlt (hnm x hx)) keepA (fun _ h => .inl h)
  · rcases List.mem_append.1 hx with hx | hx
    · exact (hk x hx).imp (hm _) id
    · exact .inl ⟨x, List.mem_append_right _ hx, rfl⟩
theorem cpost.perm {w : World} {A : Foot} {L L' : AHeap} {K : AV → AHeap → Prop} (hp : L.Perm L') {e : Ending} {w' : World} (h : cpost w A L K e w') : cpost w A L' K e w' := by
  have hk : ∀ b, keysOf L b ↔ keysOf L' b := fun b => ⟨fun ⟨x, hx, e⟩ => ⟨x, hp.mem_iff.1 hx, e⟩, fun ⟨x, hx, e⟩ => ⟨x, hp.mem_iff.2 hx, e⟩⟩
  obtain ⟨v, r, L1, A', h1, h2, h3, h4, h5, h6, h7⟩ := h
  exact ⟨v, r, L1, A', h1, h2, ⟨h3.os, h3.tape, h3.output, h3.size, fun k hk' hn => h3.block k hk' (fun hh => hn ((hk k).1 hh))⟩, fun b hb => (h4 b hb).imp id (Or.imp ((hk b).1) id), h5, fun x hx => (h6 x hx).imp ((hk _).1) id, h7⟩

section
variable {P : Program} {f : FuncId} {args args' : List AV} {K : AV → AHeap → Prop} {L Lm Lr : AHeap}
theorem MCalls.frame (h : MCalls P f args Lm K) : MCalls P f args (Lm ++ Lr) fun r L' => ∃ L1, L' = L1 ++ Lr ∧ K r L1 :=
  ⟨h.1, fun n w A vs hL hv => (h.2 n w A vs (hL.sub (List.sublist_append_left _ _)) hv).mono fun _ _ hp => hp.frame hL⟩
theorem MVal.frame {g : AV} (h : MVal P g args Lm K) : MVal P g args (Lm ++ Lr) fun r L' => ∃ L1, L' = L1 ++ Lr ∧ K r L1 :=
  fun n w A gv vs hL hg hv => (h n w A gv vs (hL.sub (List.sublist_append_left _ _)) hg hv).mono fun _ _ hp => hp.frame hL
theorem MCalls.perm {L' : AHeap} (hp : L'.Perm L) (h : MCalls P f args L' K) : MCalls P f args L K :=
  ⟨h.1, fun n w A vs hL hv => (h.2 n w A vs (hL.perm hp.symm) hv).mono fun _ _ hq => hq.perm hp⟩
theorem MVal.perm {g : AV} {L' : AHeap} (hp : L'.Perm L) (h : MVal P g args L' K) : MVal P g args L K :=
  fun n w A gv vs hL hg hv => (h n w A gv vs (hL.perm hp.symm) hg hv).mono fun _ _ hq => hq.perm hp

/-- The contract of a function that gives one value of read-only arguments. -/
def PC (P : Program) (f : FuncId) (args : List AV) (r : AV) : Prop := MCalls P f args [] fun r' L' => r' = r ∧ L' = []
def PV (P : Program) (g : AV) (args : List AV) (r : AV) : Prop := MVal P g args [] fun r' L' => r' = r ∧ L' = []
theorem PC.use {r : AV} (h : PC P f args r) (hk : K r L) : MCalls P f args L K :=
  (MCalls.frame (Lm := []) (Lr := L) h).mono fun r' L' ⟨L1, e, e1, e2⟩ => by subst e e1 e2; exact hk
theorem PV.use {g : AV} {r : AV} (h : PV P g args r) (hk : K r L) : MVal P g args L K :=
  (MVal.frame (Lm := []) (Lr := L) h).mono fun r' L' ⟨L1, e, e1, e2⟩ => by subst e e1 e2; exact hk
theorem PC.val {r : AV} (h : PC P f args r) : PV P (.v (.func (.func f) #[] #[])) args r := MCalls.val h
theorem PC.clo {caps : List AV} {r : AV} (h : PC P f (args ++ caps) r) : PV P (.clo f caps) args r := MCalls.clo h

/-- A value that tells of no read-only memory. -/
def Own (a : AV) : Prop := ∀ w A A' u, Rel w A a u → Rel w A' a u
def OwnB (x : ABlk) : Prop := match x with
  | .row _ _ xs _ => ∀ y ∈ xs, Own y ∧ ∀ c ∈ y.cells, Own c
  | .amap _ vs => ∀ y ∈ vs, Own y
  | .obj _ => True
theorem Own.v (x : Value) : Own (.v x) := fun _ _ _ _ h => by obtain rfl := h.inv_v; exact .v _
theorem Own.any : Own .any := fun _ _ _ _ _ => .any _
theorem Own.ls (b k off len cap : Nat) : Own (.ls b k off len cap) := fun _ _ _ _ h => by cases h with | ls _ _ _ _ _ o h1 h2 h3 => exact .ls _ _ _ _ _ o h1 h2 h3
theorem Own.lp (b k i j : Nat) : Own (.lp b k i j) := fun _ _ _ _ h => by cases h; exact .lp _ _ _ _
theorem Own.lm (b : Nat) : Own (.lm b) := fun _ _ _ _ h => by cases h; exact .lm _
theorem Own.sl0 (k : Nat) : Own (.sl k []) := fun _ _ _ _ h => by
  rcases h.inv_sl with ⟨_, a, cap, rfl, hc⟩ | ⟨b, off, cap, rfl, _, _, hc, _⟩
  · exact .sl0 _ _ _ hc
  · exact .sl0 _ _ _ hc
theorem Own.agg {cs : List AV} (h : ∀ x ∈ cs, Own x) : Own (.agg cs) := fun _ _ _ _ hr => by
  cases hr with | agg _ us hn hh => exact .agg _ _ hn fun i c u hc hu => h c (List.mem_of_getElem? hc) _ _ _ _ (hh i c u hc hu)
theorem Own.tup {cs : List AV} (h : ∀ x ∈ cs, Own x) : Own (.tup cs) := fun _ _ _ _ hr => by
  cases hr with | tup _ us hn hh => exact .tup _ _ hn fun i c u hc hu => h c (List.mem_of_getElem? hc) _ _ _ _ (hh i c u hc hu)
theorem Own.clo {f : FuncId} {cs : List AV} (h : ∀ x ∈ cs, Own x) : Own (.clo f cs) := fun _ _ _ _ hr => by
  cases hr with | clo _ _ us hn hh => exact .clo _ _ _ hn fun i c u hc hu => h c (List.mem_of_getElem? hc) _ _ _ _ (hh i c u hc hu)

theorem cpost.viewed {w : World} {A : Foot} (h : LRel w A L) {e : Ending} {w' : World} (hp : cpost w (fun b => A b ∨ keysOf L b) [] K e w') (ho : ∀ r L1, K r L1 → Own r ∧ ∀ x ∈ L1, OwnB x.2) :
    cpost w A L (fun r L' => ∃ L1, L' = L1 ++ L ∧ K r L1) e w' := by
  obtain ⟨v, r, L1, A', rfl, hK, hf, hA, hL, hk, hr⟩ := hp
  obtain ⟨or, oL⟩ := ho r L1 hK
  have nokey : ∀ b, ¬ keysOf [] b := fun b ⟨x, hx, _⟩ => by cases hx
  have hk' : ∀ x ∈ L1, w.heap.size ≤ x.1 := fun x hx => (hk x hx).resolve_left (nokey _)
  have keep : ∀ b, b < w.heap.size → w'.heap[b]? = w.heap[b]? := fun b hb => hf.block b hb (nokey b)
  refine ⟨v, r, L1 ++ L, A, rfl, ⟨L1, rfl, hK⟩, ⟨hf.os, hf.tape, hf.output, hf.size, fun k hk _ => keep k hk⟩, fun b hb => .inl hb, ⟨fun b hb => Nat.lt_of_lt_of_le (h.abnd b hb) hf.size, fun x hx => ?_, ?_, fun x hx => ?_⟩, fun x hx => ?_, or _ _ _ _ hr⟩
  · rcases List.mem_append.1 hx with hx | hx
    · intro hb; have := h.abnd _ hb; have := hk' x hx; omega
    · exact h.disj x hx
  · rw [List.map_append, List.nodup_append]
    refine ⟨hL.nodup, h.nodup, fun p hp q hq e => ?_⟩
    subst e
    obtain ⟨x, hx, rfl⟩ := List.mem_map.1 hp
    obtain ⟨y, hy, e⟩ := List.mem_map.1 hq
    have := (h.blk y hy).lt; have := hk' x hx; omega
  · rcases List.mem_append.1 hx with hx | hx
    · have hb := hL.blk x hx
      have ho := oL x hx
      obtain ⟨b, x⟩ := x
      cases x with
      | row t k xs cap =>
        obtain ⟨c, h1, h2, h3, h4, h5, h6⟩ := hb
        exact ⟨c, h1, h2, h3, h4, h5, fun i x j y u hx hy hu => (ho x (List.mem_of_getElem? hx)).2 y (List.mem_of_getElem? hy) _ _ _ _ (h6 i x j y u hx hy hu)⟩
      | amap ks vs =>
        obtain ⟨es, clock, h1, h2, h3, h4, h5, h6⟩ := hb
        exact ⟨es, clock, h1, h2, h3, h4, h5, fun i x e hx he => ho x (List.mem_of_getElem? hx) _ _ _ _ (h6 i x e hx he)⟩
      | obj o => exact hb
    · exact (h.blk x hx).later (keep _ (h.blk x hx).lt) (fun b hb => keep b (h.abnd b hb)) (fun _ h => h)
  · rcases List.mem_append.1 hx with hx | hx
    · exact .inr (hk' x hx)
    · exact .inl ⟨x, hx, rfl⟩
theorem LRel.borrow {w : World} {A : Foot} (h : LRel w A L) : LRel w (fun b => A b ∨ keysOf L b) [] := h.viewed (Lf := L) (Lk := []) (by simp) .nil
theorem Rels.borrow {w : World} {A : Foot} (h : LRel w A L) (hv : Vws L args args') {vs : List Value} (hr : Rels w A args vs) : Rels w (fun b => A b ∨ keysOf L b) args' vs :=
  ⟨by rw [hr.1, hv.1], fun i a' u ha' hu => by
    have hx := List.getElem?_eq_getElem (show i < args.length by have := hv.1; have := (List.getElem?_eq_some_iff.1 ha').1; omega)
    exact h.view (Lf := L) (Lk := []) (by simp) (hv.2 i _ _ hx ha') (hr.2 i _ _ hx hu)⟩
/-- All that the caller owns is read-only while the call lasts. -/
theorem MCalls.viewed (hv : Vws L args args') (h : MCalls P f args' [] K) (ho : ∀ r L1, K r L1 → Own r ∧ ∀ x ∈ L1, OwnB x.2) : MCalls P f args L fun r L' => ∃ L1, L' = L1 ++ L ∧ K r L1 :=
  ⟨h.1, fun n w A vs hL hr => (h.2 n w _ vs hL.borrow (Rels.borrow hL hv hr)).mono fun _ _ hp => hp.viewed hL ho⟩
theorem MVal.viewed {g g' : AV} (hg : Vw L g g') (hv : Vws L args args') (h : MVal P g' args' [] K) (ho : ∀ r L1, K r L1 → Own r ∧ ∀ x ∈ L1, OwnB x.2) : MVal P g args L fun r L' => ∃ L1, L' = L1 ++ L ∧ K r L1 :=
  fun n w A gv vs hL hgr hr => (h n w _ gv vs hL.borrow (hL.view (Lf := L) (Lk := []) (by simp) hg hgr) (Rels.borrow hL hv hr)).mono fun _ _ hp => hp.viewed hL ho
theorem PC.view {r : AV} (hv : Vws L args args') (h : PC P f args' r) (ho : Own r) (hk : K r L) : MCalls P f args L K :=
  (MCalls.viewed hv h fun r' L1 ⟨e1, e2⟩ => by subst e1 e2; exact ⟨ho, fun x hx => by cases hx⟩).mono fun r' L' ⟨L1, e, e1, e2⟩ => by subst e e1 e2; exact hk
theorem PV.view {g g' r : AV} (hg : Vw L g g') (hv : Vws L args args') (h : PV P g' args' r) (ho : Own r) (hk : K r L) : MVal P g args L K :=
  (MVal.viewed hg hv h fun r' L1 ⟨e1, e2⟩ => by subst e1 e2; exact ⟨ho, fun x hx => by cases hx⟩).mono fun r' L' ⟨L1, e, e1, e2⟩ => by subst e e1 e2; exact hk
end

/-! ### A function is entered and left -/
def aenv : Nat → List AV → Env
  | _, [] => []
  | i, x :: r => (i, x) :: aenv (i + 1) r
def aresult (P : Program) (ρ : Env) (L : AHeap) : ResultVar → Option (Prop × AV)
  | .tmp t => some (True, get ρ t)
  | .cell p t => w1 (get ρ p) (aLoad P L t)
def aresults (P : Program) (ρ : Env) (L : AHeap) : List ResultVar → Option (Prop × List AV)
  | [] => some (True, [])
  | r :: rs => match aresult P ρ L r, aresults P ρ L rs with
    | some (c, x), some (cs, xs) => some (c ∧ cs, x :: xs)
    | _, _ => none
def resAV : List AV → AV
  | [x] => x
  | xs => .tup xs
def retK (P : Program) (rs : List ResultVar) (K : AV → AHeap → Prop) (ρ : Env) (L : AHeap) : Prop :=
  match aresults P ρ L rs with
  | some (c, xs) => c ∧ ∃ m r L', Vw (pickT m L) (resAV xs) r ∧ LVw (pickT m L) (pickF m L) L' ∧ K r L'
  | none => False
def retQ (P : Program) (rs : List ResultVar) (K : AV → AHeap → Prop) : AQ
  | .ret, ρ, L => retK P rs K ρ L
  | .normal, ρ, L => retK P rs K ρ L
  | _, _, _ => False

theorem get_aenv_lt : ∀ (l : List AV) (i j : Nat), i < j → get (aenv j l) i = .any
  | [], _, _, _ => rfl
  | x :: l, i, j, h => by
    simp only [aenv, get]
    rw [if_neg (by omega)]; exact get_aenv_lt l i (j + 1) (by omega)
theorem get_aenv : ∀ (l : List AV) (i j : Nat), get (aenv j l) (j + i) = (l[i]?).getD .any
  | [], _, _ => rfl
  | x :: l, i, j => by
    simp only [aenv, get]
    cases i with
    | zero => simp
    | succ i => rw [if_neg (by omega), show j + (i + 1) = (j + 1) + i by omega, get_aenv l i (j + 1)]; simp

theorem aresults_ok {P : Program} {ρ : Env} {L : AHeap} {w : World} {A : Foot} (g : ResultVar → Sem Value)
    (hg : ∀ r c x, aresult P ρ L r = some (c, x) → c → ∃ u, (g r).run P w = .ok u w ∧ Rel w A x u) :
    ∀ (rs : List ResultVar) (c : Prop) (xs : List AV), aresults P ρ L rs = some (c, xs) → c → ∃ us : List Value, (rs.mapM (m := Sem) g).run P w = .ok us w ∧ Rels w A xs us := by
  intro rs
  induction rs with
  | nil => intro c xs h _; cases h; exact ⟨[], rfl, Rels.nil⟩
  | cons r rs ih =>
    intro c xs h hc
    simp only [aresults] at h
    split at h
    · rename_i c1 x cs xs' h1 h2
      cases h
      obtain ⟨us, hu, hr⟩ := ih cs xs' h2 hc.2
      obtain ⟨u, hu', hr'⟩ := hg r c1 x h1 hc.1
      exact ⟨u :: us, by simp [List.mapM_cons, hu', hu], Rels.cons hr' hr⟩
    · cases h

theorem results_ok {P : Program} {fn : Func} {ρ : Env} {L : AHeap} {w : World} {A : Foot} {tmps : Array Value} (hρ : ∀ i, Rel w A (get ρ i) (tmps.getD i undef)) (hL : LRel w A L) {c : Prop} {xs : List AV}
    (h : aresults P ρ L fn.results.toList = some (c, xs)) (hc : c) : ∃ v, (results fn tmps).run P w = .ok v w ∧ Rel w A (resAV xs) v := by
  unfold results
  rw [← Array.toArray_toList (xs := fn.results), List.mapM_toArray]
  generalize hgdef : (fun x : ResultVar => (match x with | .tmp t => pure (tmps.getD t undef) | .cell a t => do loadVar t (← asAddr (tmps.getD a undef)) : Sem Value)) = g
  have hg : ∀ r c x, aresult P ρ L r = some (c, x) → c → ∃ u, (g r).run P w = .ok u w ∧ Rel w A x u := by
    intro r c x h1 hc
    subst hgdef
    cases r with
    | tmp t => simp only [aresult] at h1; cases h1; exact ⟨_, rfl, hρ t⟩
    | cell p t =>
      simp only [aresult] at h1
      obtain ⟨g1, c', g2, g3⟩ := w1_inv h1 hc
      have hp := fo_ok (hρ p) g1
      obtain ⟨u, hu, hr⟩ := aLoad_ok g2 g3 hL hp
      refine ⟨u, ?_, hr⟩
      have hpt : ∃ ad, tmps.getD p undef = .pointer (some ad) := by
        unfold aLoad at g2
        split at g2
        · cases g2
        · split at g2
          · rename_i heq; rw [heq] at hp; obtain ⟨_, _, h, _⟩ := hp.inv_rp2; exact ⟨_, h⟩
          · rename_i heq; rw [heq] at hp; exact ⟨_, hp.inv_lp⟩
          · cases g2
      obtain ⟨ad, had⟩ := hpt
      simpa [Instr.loadAt, Instr.sureAddr, asAddr, had] using hu
  obtain ⟨us, hu, hr⟩ := aresults_ok g hg _ c xs h hc
  refine ⟨if h : us.toArray.size = 1 then us.toArray[0] else .tuple us.toArray, ?_, ?_⟩
  · simp [hu]
  · unfold resAV
    split
    · rename_i x
      obtain ⟨u, us', rfl, h1, h2⟩ := hr.inv_cons
      obtain rfl := h2.inv_nil
      simpa using h1
    · rename_i hne
      have hlen : us.length = xs.length := hr.1
      have hne1 : ¬ us.toArray.size = 1 := fun e => by
        have : xs.length = 1 := by simpa [hlen] using e
        obtain ⟨x, rfl⟩ := List.length_eq_one_iff.1 this
        exact hne x rfl
      rw [dif_neg hne1]
      exact .tup _ _ (by simpa using hlen) fun i c u hc hu => hr.2 i c u hc (by simpa using hu)

/-- The marks are taken in. -/
theorem leave_marks {n : Nat} {P : Program} {fn : Func} {tmps : Array Value} {R : Ending → World → Prop} : ∀ (ds : List Nat) (w : World), (∀ D ∈ ds, w.heap[D]? = some (.deferred (some []))) → ds.Nodup →
    (∀ w', Fr w (fun b => b ∈ ds) w' → w'.heap.size = w.heap.size → ∃ v, (results fn tmps).run P w' = .ok v w' ∧ R (.returned v) w') →
    LeavesInM Fence.wide n P fn tmps R (ds.map fun D => { target := .collected D, args := #[] }) .returning w
  | [], w, _, _, h => h w (Fr.refl _ _) rfl
  | D :: ds, w, hd, hn, h => by
    refine ⟨by simp, .inl ⟨D, w.putObj D (.deferred none), rfl, run_takeDeferred (hd D List.mem_cons_self), ?_⟩⟩
    have hn' := List.nodup_cons.1 hn
    refine leave_marks ds _ (fun E hE => ?_) hn'.2 fun w' hf hs => h w' ?_ (by rw [hs]; simp [World.putObj])
    · rw [World.putObj_heap_other (by rintro rfl; exact hn'.1 hE)]; exact hd E (List.mem_cons_of_mem _ hE)
    · have h1 : Fr w (fun b => b ∈ D :: ds) (w.putObj D (.deferred none)) := Fr.putObj (M := fun b => b ∈ D :: ds) List.mem_cons_self _
      exact h1.trans hf fun b hb => .inl (List.mem_cons_of_mem _ hb)

theorem MCalls.enter {P : Program} {f : FuncId} {fn : Func} {c : Code} {args : List AV} {L : AHeap} {K : AV → AHeap → Prop} (fz : List Nat) (hf : P.funcs[f]? = some fn) (hname : (fn.name == "runtime.NumGoroutine") = false)
    (hb : fn.body = some c) (hok : codeOk fn.ntmps c = true) (hargs : args.length ≤ fn.ntmps) (h : AWp ⟨P, fn.ntmps, none, fz⟩ c (retQ P fn.results.toList K) (aenv 0 args) L) : MCalls P f args L K := by
  refine ⟨enters_of hf hname hb, fun n w A vs hL hv => callsIn_of_wp_marks hf hb trivial ?_ rfl⟩
  have hst : St w (keysOf L) A fn.ntmps (aenv 0 args) L { tmps := vs.toArray ++ Array.replicate (fn.ntmps - vs.toArray.size) undef, defers := [] } w := by
    refine st_iff.2 ⟨A, [], Fr.refl _ _, fun _ h => .inl h, hL, fun x hx => .inl ⟨x, hx, rfl⟩, by simp [hv.1]; omega, fun i => ?_, rfl, fun D hD => (by cases hD), .nil⟩
    have hget : get (aenv 0 args) i = (args[i]?).getD .any := by simpa using get_aenv args i 0
    rw [hget]
    cases hi : args[i]? with
    | none => exact .any _
    | some x =>
      have hlt : i < args.length := (List.getElem?_eq_some_iff.1 hi).1
      have hlt' : i < vs.length := by rw [hv.1]; exact hlt
      refine hv.2 i x _ hi ?_
      simp [Array.getD_eq_getD_getElem?, Array.getElem?_append, hlt']
  have hFw : Fw none = Fence.wide := rfl
  have hw := h hok n w (keysOf L) A _ w hst
  rw [hFw] at hw
  refine wpIn_mono hw ?_
  rintro e a' w' ⟨ρ', L', hq, hs⟩
  have key : retK P fn.results.toList K ρ' L' → LeavesInM Fence.wide n P fn a'.tmps (cpost w A L K) a'.defers .returning w' := fun hq => by
    obtain ⟨A', ds, hs⟩ := st_iff.1 hs
    unfold retK at hq
    split at hq
    · rename_i cc xs hres
      obtain ⟨hc, m, r, L2, hvw, hlv, hK⟩ := hq
      rw [hs.dfs]
      refine leave_marks ds w' (fun D hD => (hs.dblk D hD).1) hs.dnd fun w2 hf2 hsz => ?_
      have hkeep : ∀ b, b < w'.heap.size → b ∉ ds → w2.heap[b]? = w'.heap[b]? := fun b hb hn => hf2.block b hb hn
      have hAk : ∀ b, A' b → w2.heap[b]? = w'.heap[b]? := fun b hb => hkeep b (hs.l.abnd b hb) (fun hD => (hs.dblk b hD).2.1 hb)
      have hL2 : LRel w2 A' L' := ⟨fun b hb => by rw [hsz]; exact hs.l.abnd b hb, hs.l.disj, hs.l.nodup, fun x hx => (hs.l.blk x hx).later (hkeep _ (hs.l.blk x hx).lt (fun hD => (hs.dblk _ hD).2.2.1 ⟨x, hx, rfl⟩)) hAk (fun _ h => h)⟩
      obtain ⟨v, hv2, hr⟩ := results_ok (fn := fn) (fun i => (hs.env i).later hAk (fun _ h => h)) hL2 hres hc
      refine ⟨v, hv2, v, r, L2, fun b => A' b ∨ keysOf (pickT m L') b, rfl, hK, hs.fr.trans hf2 (fun D hD => (hs.dblk D hD).2.2.2), fun b hb => ?_, hL2.viewed (pick_perm m L') hlv, fun x hx => ?_, hL2.view (pick_perm m L') hvw hr⟩
      · rcases hb with hb | ⟨x, hx, rfl⟩
        · exact hs.asub b hb
        · exact .inr (hs.lown x ((pick_perm m L').mem_iff.2 (List.mem_append_left _ hx)))
      · obtain ⟨z, hz, e⟩ := List.mem_map.1 (hlv.keys.subset (List.mem_map_of_mem hx))
        rw [← e]
        exact hs.lown z ((pick_perm m L').mem_iff.2 (List.mem_append_right _ hz))
    · exact hq.elim
  cases e with
  | normal => exact key hq
  | ret => exact key hq
  | exit id => exact hq.elim
  | goto l => exact hq.elim
  | panic ch => exact hq.elim
  | outgrown => exact hq.elim
/-- A long row of one value. -/
def zrow (n : Nat) (x : AV) : List AV := List.replicate n x
end Go.AL
