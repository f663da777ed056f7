/- The layer AL, part 20: families of owned blocks; the memory told in another order; loops with a hidden measure. No condition. -/
import Derived.Test.YtkfkdmefabefkaaAlMix
namespace Go.AL
open Go Go.RowKit

section
variable {C : Cfg} {c : Code} {Q : AQ} {ρ : Env} {L : AHeap}
theorem AWp.perm {L' : AHeap} (hp : L.Perm L') (h : AWp C c Q ρ L') : AWp C c Q ρ L :=
  AWp.st (fun _ _ _ _ _ hs => st_view hs (Lf := []) (Lk := L') hp (LVw.refl _) fun _ => .inr (.refl _)) h
theorem AWp.nodup (h : (L.map (·.1)).Nodup → AWp C c Q ρ L) : AWp C c Q ρ L := fun hok n w0 M A0 a w hs => by
  obtain ⟨A, ds, hs'⟩ := st_iff.1 hs
  exact h hs'.l.nodup hok n w0 M A0 a w hs
theorem AWp.viewP {Lf Lk L' : AHeap} (hp : L.Perm (Lf ++ Lk)) (hv : LVw Lf Lk L') (sv : List (Nat × AV)) (hs : ∀ p ∈ sv, Vw Lf (get ρ p.1) p.2) (h : AWp C c Q (sv ++ ρ) L') : AWp C c Q ρ L := by
  refine AWp.st (fun w0 M A0 a w hst => st_view hst hp hv fun i => .inr ?_) h
  clear h
  induction sv with
  | nil => exact .refl _
  | cons p sv ih =>
    obtain ⟨j, x⟩ := p
    simp only [List.cons_append, get]
    split
    · rename_i e; subst e; exact hs (i, x) List.mem_cons_self
    · exact ih fun p hp => hs p (List.mem_cons_of_mem _ hp)
/-- Behind a piece of code blocks become read-only. -/
theorem AWp.postV (h : AWp C c (fun e ρ' L1 => ∃ Lf Lk L', L1.Perm (Lf ++ Lk) ∧ LVw Lf Lk L' ∧ Q e ρ' L') ρ L) : AWp C c Q ρ L := fun hok n w0 M A0 a w hs =>
  wpIn_mono (h hok n w0 M A0 a w hs) fun _ _ _ ⟨ρ', _, ⟨_, _, L', hp, hv, hq⟩, hst⟩ => ⟨ρ', L', hq, st_view hst hp hv fun _ => .inr (.refl _)⟩
/-- A loop whose measure is hidden in what holds. -/
theorem AWp.loopN (ls ks : List Nat) (I : Nat → List AV → AHeap → Prop) (m0 : Nat) (h0 : I m0 (ls.map (get ρ)) L)
    (round : ∀ m vs L', vs.length = ls.length → I m vs L' → AWp C c (roundQ ls ks ρ (fun vs' L'' => ∃ m', m' < m ∧ I m' vs' L'') Q) (lenv ls ks vs ρ) L') : AWp C (.loop c) Q ρ L := by
  open Classical in
  let μ : List AV → AHeap → Nat := fun vs L => if h : ∃ m, I m vs L then Classical.choose (least h) else 0
  refine AWp.loop ls ks (fun vs L => ∃ m, I m vs L) μ ⟨m0, h0⟩ fun vs L' hl hI => ?_
  have hμ : μ vs L' = Classical.choose (least hI) := dif_pos hI
  have hm := (Classical.choose_spec (least hI)).1
  refine (round _ vs L' hl hm).mono fun e ρ' L'' hq => ?_
  cases e with
  | normal =>
    obtain ⟨h1, L3, h2, m', h3, h4⟩ := hq
    have hx : ∃ m, I m (ls.map (get ρ')) L3 := ⟨m', h4⟩
    refine ⟨h1, L3, h2, hx, ?_⟩
    have e : μ (ls.map (get ρ')) L3 = Classical.choose (least hx) := dif_pos hx
    rw [e, hμ]
    exact Nat.lt_of_le_of_lt ((Classical.choose_spec (least hx)).2 _ h4) h3
  | _ => exact hq
end

theorem lk_of_mem {L : AHeap} (hn : (L.map (·.1)).Nodup) {b : Nat} {x : ABlk} (h : (b, x) ∈ L) : lk L b = some x := by
  induction L with
  | nil => cases h
  | cons y r ih =>
    obtain ⟨b', y⟩ := y
    simp only [List.map_cons, List.nodup_cons] at hn
    simp only [lk]
    rcases List.mem_cons.1 h with e | h'
    · cases e; rw [if_pos rfl]
    · have hne : ¬ b = b' := fun e => by subst e; exact hn.1 (List.mem_map_of_mem (f := (·.1)) h')
      rw [if_neg hne, ih hn.2 h']
theorem flatMap_ext {α β : Type} {f g : α → List β} : ∀ {l : List α}, (∀ x ∈ l, f x = g x) → l.flatMap f = l.flatMap g
  | [], _ => rfl
  | x :: l, h => by simp only [List.flatMap_cons]; rw [h x (by simp), flatMap_ext fun y hy => h y (List.mem_cons_of_mem _ hy)]
/-- The blocks of a family, one list for each number below n. -/
def famL (n : Nat) (Ls : Nat → AHeap) : AHeap := (List.range n).flatMap Ls
def famR (n p : Nat) (Ls : Nat → AHeap) : AHeap := ((List.range n).erase p).flatMap Ls
theorem fam_split {n p : Nat} (hp : p < n) (Ls : Nat → AHeap) : (famL n Ls).Perm (Ls p ++ famR n p Ls) := by
  have h := List.Perm.flatMap_right Ls (List.perm_cons_erase (List.mem_range.2 hp))
  rwa [List.flatMap_cons] at h
theorem famR_congr {n p : Nat} {Ls Ls' : Nat → AHeap} (h : ∀ q, q ≠ p → Ls' q = Ls q) : famR n p Ls' = famR n p Ls :=
  flatMap_ext fun q hq => h q fun e => by subst e; exact (List.nodup_range.not_mem_erase) hq
theorem fam_nil (n : Nat) : famL n (fun _ => []) = [] := by unfold famL; simp
theorem map_range_set (n p : Nat) (V : Nat → AV) (x : AV) : ((List.range n).map V).set p x = (List.range n).map fun q => if q = p then x else V q := by
  apply List.ext_getElem?
  intro i
  rw [List.getElem?_set, List.getElem?_map, List.getElem?_map]
  by_cases hi : i < n
  · rw [List.getElem?_range hi]
    by_cases e : p = i
    · subst e; simp [hi]
    · rw [if_neg e]; simp [Ne.symm e]
  · have : (List.range n)[i]? = none := by simp; omega
    rw [this]
    split
    · split
      · rename_i h; simp at h; omega
      · rfl
    · rfl
theorem fam_views {n k : Nat} {t : TypeId} {V : Nat → AV} {Ls : Nat → AHeap} {Y : Nat → List AV} (hn : ((famL n Ls).map (·.1)).Nodup) (h : ∀ p, p < n → AppSt t k (Y p) (V p) (Ls p)) :
    Vws (famL n Ls) ((List.range n).map V) ((List.range n).map fun p => .sl k (Y p)) := by
  refine ⟨by simp, fun i x y hx hy => ?_⟩
  by_cases hi : i < n
  · rw [List.getElem?_map, List.getElem?_range hi] at hx hy
    cases hx; cases hy
    show Vw (famL n Ls) (V i) (.sl k (Y i))
    rcases (h i hi).inv with ⟨e1, e2, _⟩ | ⟨b, cap, e1, e2⟩
    · rw [e1, e2]; exact .nil k
    · rw [e1]
      refine Vw.ofLs (t := t) (cap := cap) (lk_of_mem hn ?_) rfl
      unfold famL
      exact List.mem_flatMap.2 ⟨i, List.mem_range.2 hi, by rw [e2]; exact List.mem_singleton_self _⟩
  · have : (List.range n)[i]? = none := by simp; omega
    rw [List.getElem?_map, this] at hx; cases hx
theorem map_range_getD {n p : Nat} (hp : p < n) (V : Nat → AV) : ((List.range n).map V).getD p .any = V p := by
  rw [List.getD_eq_getElem?_getD, List.getElem?_map, List.getElem?_range hp]; rfl
end Go.AL
