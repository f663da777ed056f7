/- Texts of this claim's proof: AlEnter+1, AlSimp+1, AlLoops+1, AlRange+1, AlBr2+1, WSl+1, WCut+1, WCut2+1. No condition. -/
import Derived.Test.YtkijaghkhjoomaaGreatM0
import Derived.Test.YtkijaghkhjoomaaGreatM1
import Derived.Test.YtkijaghkhjoomaaGreatM2
import Derived.Test.YtkijaghkhjoomaaGreatM3
import Derived.Test.YtkijaghkhjoomaaGreatM4
import Derived.Test.YtkijaghkhjoomaaGreatM5
import Derived.Test.YtkijaghkhjoomaaGreatM6
import Derived.Test.YtkijaghkhjoomaaGreatM7
import Derived.Test.YtkijaghkhjoomaaGreatM8
import Derived.Test.YtkijaghkhjoomaaGreatM9
import Derived.Test.YtkijaghkhjoomaaGreatM10
section
namespace Go.AL
open Go Go.RowKit

theorem LVw.of_sub {Lf L L' : AHeap} (h : L'.Sublist L) : LVw Lf L L' := by
  induction h with
  | slnil => exact .nil
  | cons x _ ih => exact .drop ih
  | cons_cons x _ ih => exact .same ih

section
variable {w : World} {A : Foot} {L : AHeap}
end

section
variable {w0 : World} {M A0 : Foot} {N : Nat} {ρ : Env} {L : AHeap} {a : Act} {w : World} {A : Foot} {ds : List Nat}
end

section
variable {P : Program} {f : FuncId} {args args' : List AV} {K : AV → AHeap → Prop} {L Lm Lr : AHeap}
end

end Go.AL
end
section
namespace Go.AL
open Go Go.RowKit
section
variable (x : AV) (c : Bool)
end
/-- Some blocks are dropped at the return. -/
theorem ret_sub {P : Program} {rs : List ResultVar} {K : AV → AHeap → Prop} {ρ : Env} {L : AHeap} (L2 : AHeap) (hs : L2.Sublist L) (h : retS P rs K ρ L L2) : retK P rs K ρ L := by
  unfold retK; unfold retS at h
  split at h
  · rename_i e; (try rw [e]); exact ⟨h.1, [], _, L2, .refl _, LVw.of_sub hs, h.2⟩
  · exact h.elim
end Go.AL
end
section
namespace Go.AL
open Go Go.RowKit

theorem own_ints (l : List Int) : ∀ y ∈ l.map ai, Own y ∧ ∀ c ∈ y.cells, Own c := fun y hy => by
  obtain ⟨n, _, rfl⟩ := List.mem_map.1 hy
  exact ⟨Own.v _, fun c hc => by simp [AV.cells] at hc; subst hc; exact Own.v _⟩
end Go.AL
end
section
namespace Go.AL
open Go Go.RowKit

theorem cpost.permOut {w : World} {A : Foot} {L : AHeap} {K K2 : AV → AHeap → Prop} {e : Ending} {w' : World} (h : cpost w A L K e w') (hk : ∀ r L', K r L' → ∃ L2, L'.Perm L2 ∧ K2 r L2) : cpost w A L K2 e w' := by
  obtain ⟨v, r, L', A', h1, h2, h3, h4, h5, h6, h7⟩ := h
  obtain ⟨L2, hp, h2'⟩ := hk r L' h2
  exact ⟨v, r, L2, A', h1, h2', h3, h4, h5.perm hp, fun x hx => h6 x (hp.mem_iff.2 hx), h7⟩
/-- A call for which some blocks (Lf) become read-only for good; others (Lr) are out of its sight. -/
theorem MVal.pass {P : Program} {g : AV} {args args' : List AV} {L Lf Li Lr : AHeap} {K K2 : AV → AHeap → Prop} (hp : L.Perm (Lf ++ (Li ++ Lr))) (hv : Vws Lf args args') (h : MVal P g args' Li K)
    (hk : ∀ r L1, K r L1 → ∃ L2, (L1 ++ Lr).Perm L2 ∧ K2 r L2) : MVal P g args L K2 := fun n w A gv vs hL hgr hr => by
  have h1 := (MVal.frame (Lr := Lr) h)
  have hL1 : LRel w (fun b => A b ∨ keysOf Lf b) (Li ++ Lr) := hL.viewed hp (LVw.refl _)
  have hr1 : Rels w (fun b => A b ∨ keysOf Lf b) args' vs := ⟨by rw [hr.1, hv.1], fun i a' u ha' hu => by
    have hx := List.getElem?_eq_getElem (show i < args.length by have := hv.1; have := (List.getElem?_eq_some_iff.1 ha').1; omega)
    exact hL.view hp (hv.2 i _ _ hx ha') (hr.2 i _ _ hx hu)⟩
  refine (h1 n w _ gv vs hL1 (hgr.later (fun _ _ => rfl) (fun _ h => .inl h)) hr1).mono fun e w' hc => ?_
  have hc := hc.permOut (K2 := K2) (fun r L' ⟨L1, e1, hK⟩ => by subst e1; exact hk r L1 hK)
  obtain ⟨v, r, L', A', h1, h2, h3, h4, h5, h6, h7⟩ := hc
  have hsub : ∀ b, keysOf (Li ++ Lr) b → keysOf L b := fun b ⟨x, hx, e⟩ => ⟨x, hp.mem_iff.2 (List.mem_append_right _ hx), e⟩
  refine ⟨v, r, L', A', h1, h2, ⟨h3.os, h3.tape, h3.output, h3.size, fun k hk hn => h3.block k hk fun hh => hn (hsub k hh), h3.drawn⟩, fun b hb => ?_, h5, fun x hx => (h6 x hx).imp (hsub _) id, h7⟩
  rcases h4 b hb with (h | ⟨x, hx, e⟩) | h | h
  · exact .inl h
  · exact .inr (.inl ⟨x, hp.mem_iff.2 (List.mem_append_left _ hx), e⟩)
  · exact .inr (.inl (hsub b h))
  · exact .inr (.inr h)
end Go.AL
end
section
namespace Go.AL
open Go Go.RowKit Go.ChangeShapes Go.WideShapes Go.ChangeAt
section
variable {H : Type} {enc : TypeId × Value → H} {P : Program} {W : World} {t : TypeId}
theorem okWide_cells {r : Go.Reach} {b : Nat} {e : TypeId} {v : Value} (ht : P.underlying t = some (.slice e)) (h : Value.okWide P W r b t v) : v.cells = #[v] := by
  cases v with
  | agg cs =>
    exfalso
    simp only [Value.okWide, ht, Cell.okWide, Cell.ok] at h
  | _ => rfl
end
end Go.AL
end
section
namespace Go.AL
open Go Go.RowKit
set_option maxRecDepth 4000
theorem ints_indexFunc (l : List Int) (hl : l.length ≤ 1000000) (g : AV) (hgf : fo g = (True, g)) (p : Int → Bool) (hg : ∀ x ∈ l, PV Go.Proofs.Tryz.prog g [ai x] (ab (p x))) :
    PC Go.Proofs.Tryz.prog 140 [aInts l, g] (ai (match l.findIdx? p with | some i => (i : Int) | none => -1)) := by
  refine PC.enter 19 [.tmp 4] [] Go.Proofs.Tryz.func140 rfl rfl rfl rfl rfl (by simp) (AWp.of ?_); simp only [go_sem]
  repeat ((with_reducible refine an ?_ ?_); focus exact As)
  refine AWp.of ?_; simp only [go_sem]
  refine AWp.range' l.length [] [0, 1, 7] (fun k vs L => L = [] ∧ ∀ i (h : i < l.length), i < k → p l[i] = false) (by omega) rfl rfl rfl ⟨rfl, by omega⟩ ?_ ?_
  · rintro k vs L' hk hvs ⟨rfl, hI⟩
    simp only [go_sem]
    repeat ((with_reducible refine an ?_ ?_); focus exact As)
    refine AWp.of ?_; simp only [go_sem]
    have hgk := hg l[k] (List.getElem_mem hk)
    try simp only [go_sem, ai] at hgk
    repeat ((with_reducible refine an ?_ ?_); focus exact As)
    refine AWp.of ?_; simp only [go_sem, getD_map hk, hgf, ai]
    refine ⟨⟨by omega, by omega⟩, hk, hgk.use (AWp.of ?_)⟩; simp only [go_sem]
    refine ⟨fun ht => ?_, fun hf => ?_⟩
    · repeat ((with_reducible refine an ?_ ?_); focus exact As)
      refine AWp.of ?_; simp only [go_sem]
      refine ret_eq ?_; simp only [go_sem]
      have : l.findIdx? p = some k := by rw [List.findIdx?_eq_some_iff_getElem]; exact ⟨hk, ht, fun j hj => by simpa using hI j (by omega) hj⟩
      rw [this]
    · refine ⟨[], List.Sublist.refl _, rfl, fun i h hi => ?_⟩
      by_cases e : i = k
      · subst e; exact hf
      · exact hI i h (by omega)
  · rintro vs L' hvs ⟨rfl, hI⟩
    simp only [go_sem]
    repeat ((with_reducible refine an ?_ ?_); focus exact As)
    refine AWp.of ?_; simp only [go_sem]
    repeat ((with_reducible refine an ?_ ?_); focus exact As)
    refine AWp.of ?_; simp only [go_sem]
    refine ret_eq ?_; simp only [go_sem]
    have : l.findIdx? p = none := by rw [List.findIdx?_eq_none_iff]; intro x hx; obtain ⟨i, hi, rfl⟩ := List.getElem_of_mem hx; exact hI i hi hi
    rw [this]
theorem ints_containsFunc (l : List Int) (hl : l.length ≤ 1000000) (g : AV) (hgf : fo g = (True, g)) (p : Int → Bool) (hg : ∀ x ∈ l, PV Go.Proofs.Tryz.prog g [ai x] (ab (p x))) :
    PC Go.Proofs.Tryz.prog 110 [aInts l, g] (ab (l.any p)) := by
  refine PC.enter 9 [.tmp 4] [] Go.Proofs.Tryz.func110 rfl rfl rfl rfl rfl (by simp) (AWp.of ?_); simp only [go_sem]
  repeat ((with_reducible refine an ?_ ?_); focus exact As)
  refine AWp.of ?_; simp only [go_sem, hgf]
  refine (ints_indexFunc l hl g hgf p hg).val.use ?_
  simp only [go_sem]
  repeat ((with_reducible refine an ?_ ?_); focus exact As)
  refine AWp.of ?_; simp only [go_sem]
  refine ret_eq ?_; simp only [go_sem]
  congr 2; exact findIdx_any l p
theorem rows_indexFunc (l : List (List Int)) (hl : l.length ≤ 1000000) (g : AV) (hgf : fo g = (True, g)) (p : (List Int) → Bool) (hg : ∀ x ∈ l, PV Go.Proofs.Tryz.prog g [aInts x] (ab (p x))) :
    PC Go.Proofs.Tryz.prog 67 [aRows l, g] (ai (match l.findIdx? p with | some i => (i : Int) | none => -1)) := by
  refine PC.enter 19 [.tmp 4] [] Go.Proofs.Tryz.func67 rfl rfl rfl rfl rfl (by simp) (AWp.of ?_); simp only [go_sem]
  repeat ((with_reducible refine an ?_ ?_); focus exact As)
  refine AWp.of ?_; simp only [go_sem]
  refine AWp.range' l.length [] [0, 1, 7] (fun k vs L => L = [] ∧ ∀ i (h : i < l.length), i < k → p l[i] = false) (by omega) rfl rfl rfl ⟨rfl, by omega⟩ ?_ ?_
  · rintro k vs L' hk hvs ⟨rfl, hI⟩
    simp only [go_sem]
    repeat ((with_reducible refine an ?_ ?_); focus exact As)
    refine AWp.of ?_; simp only [go_sem]
    have hgk := hg l[k] (List.getElem_mem hk)
    try simp only [go_sem, aInts] at hgk
    repeat ((with_reducible refine an ?_ ?_); focus exact As)
    refine AWp.of ?_; simp only [go_sem, getD_map hk, hgf, aInts]
    refine ⟨⟨by omega, by omega⟩, hk, hgk.use (AWp.of ?_)⟩; simp only [go_sem]
    refine ⟨fun ht => ?_, fun hf => ?_⟩
    · repeat ((with_reducible refine an ?_ ?_); focus exact As)
      refine AWp.of ?_; simp only [go_sem]
      refine ret_eq ?_; simp only [go_sem]
      have : l.findIdx? p = some k := by rw [List.findIdx?_eq_some_iff_getElem]; exact ⟨hk, ht, fun j hj => by simpa using hI j (by omega) hj⟩
      rw [this]
    · refine ⟨[], List.Sublist.refl _, rfl, fun i h hi => ?_⟩
      by_cases e : i = k
      · subst e; exact hf
      · exact hI i h (by omega)
  · rintro vs L' hvs ⟨rfl, hI⟩
    simp only [go_sem]
    repeat ((with_reducible refine an ?_ ?_); focus exact As)
    refine AWp.of ?_; simp only [go_sem]
    repeat ((with_reducible refine an ?_ ?_); focus exact As)
    refine AWp.of ?_; simp only [go_sem]
    refine ret_eq ?_; simp only [go_sem]
    have : l.findIdx? p = none := by rw [List.findIdx?_eq_none_iff]; intro x hx; obtain ⟨i, hi, rfl⟩ := List.getElem_of_mem hx; exact hI i hi hi
    rw [this]
theorem rows_containsFunc (l : List (List Int)) (hl : l.length ≤ 1000000) (g : AV) (hgf : fo g = (True, g)) (p : (List Int) → Bool) (hg : ∀ x ∈ l, PV Go.Proofs.Tryz.prog g [aInts x] (ab (p x))) :
    PC Go.Proofs.Tryz.prog 27 [aRows l, g] (ab (l.any p)) := by
  refine PC.enter 9 [.tmp 4] [] Go.Proofs.Tryz.func27 rfl rfl rfl rfl rfl (by simp) (AWp.of ?_); simp only [go_sem]
  repeat ((with_reducible refine an ?_ ?_); focus exact As)
  refine AWp.of ?_; simp only [go_sem, hgf]
  refine (rows_indexFunc l hl g hgf p hg).val.use ?_
  simp only [go_sem]
  repeat ((with_reducible refine an ?_ ?_); focus exact As)
  refine AWp.of ?_; simp only [go_sem]
  refine ret_eq ?_; simp only [go_sem]
  congr 2; exact findIdx_any l p
theorem asgs_clone (l : List (Int × Int)) (hl : l.length ≤ 1000000) : PC Go.Proofs.Tryz.prog 81 [aAsgs l] (aAsgs l) := by
  refine PC.enter 8 [.tmp 2] [] Go.Proofs.Tryz.func81 rfl rfl rfl rfl rfl (by simp) (AWp.of ?_); simp only [go_sem]
  repeat ((with_reducible refine an ?_ ?_); focus exact As)
  refine AWp.of ?_; simp only [go_sem]
  intro b hb
  repeat ((with_reducible refine an ?_ ?_); focus exact As)
  refine AWp.of ?_; simp only [go_sem]
  refine ⟨fun ht => ?_, fun hf => ?_⟩
  · have : l = [] := by
      by_cases h : l = []
      · exact h
      · rw [hb (by simpa using h)] at ht; cases ht
    subst this
    repeat ((with_reducible refine an ?_ ?_); focus exact As)
    refine AWp.of ?_; simp only [go_sem]
    refine ret_view [] ?_; simp only [go_sem]
    exact .nil _
  · repeat ((with_reducible refine an ?_ ?_); focus exact As)
    refine AWp.of ?_; simp only [go_sem]
    refine fun _ => ⟨by omega, fun b' cap' hc => AWp.of ?_⟩; simp only [go_sem]
    refine ret_view [true] ?_; simp only [go_sem]
    exact Vw.ofLs (if_pos rfl) (by simp)
end Go.AL
end
section
namespace Go.AL
open Go Go.RowKit
set_option maxRecDepth 4000
theorem cut_process (ps : List Pr) (p : Int) : PC Go.Proofs.Tryz.prog 133 [aTr ps, ai p] (ab (decide (0 ≤ p) && decide (p < ps.length))) := by
  refine PC.enter 14 [.tmp 4] [2] Go.Proofs.Tryz.func133 rfl rfl rfl rfl rfl (by simp) (AWp.of ?_); simp only [go_sem]
  repeat (first | ((with_reducible refine AWp.ofC ?_ ?_); (focus exact rfl); simp only [go_sem]) | ((with_reducible refine an ?_ ?_); focus exact Au))
  refine ret_eq ?_; simp only [go_sem]
theorem cut_inRange (ps : List Pr) (hs : Sm ps) (c : List Int) (hc : c.length = ps.length) : PC Go.Proofs.Tryz.prog 132 [aTr ps, aInts c] (ab (inRangeF ps c)) := by
  have hl := hs.procs
  refine PC.enter 28 [.tmp 4] [2] Go.Proofs.Tryz.func132 rfl rfl rfl rfl rfl (by simp) (AWp.of ?_); simp only [go_sem]
  repeat ((with_reducible refine an ?_ ?_); focus exact As)
  refine AWp.of ?_; simp only [go_sem]
  refine AWp.range' c.length [] [2, 7, 8] (fun k vs L => L = [] ∧ ∀ j, j < k → cntOk ps c j = true) (by omega) rfl rfl rfl ⟨rfl, by omega⟩ ?_ ?_
  · rintro k vs L' hk - ⟨rfl, hI⟩
    have hkp : k < ps.length := by omega
    have e : cntOk ps c k = (decide (0 ≤ c[k]) && decide (c[k] ≤ ps[k].evs.length)) := by simp only [cntOk, List.getElem?_eq_getElem hk, List.getElem?_eq_getElem hkp]
    simp only [go_sem]
    repeat (first | ((with_reducible refine AWp.ofC ?_ ?_); (focus exact rfl); simp only [go_sem, getD_map hk, getD_map hkp]) | ((with_reducible refine an ?_ ?_); focus exact Au))
    refine ⟨fun h1 => ?_, fun h1 h2 => ?_⟩
    · repeat (first | ((with_reducible refine AWp.ofC ?_ ?_); (focus exact rfl); simp only [go_sem]) | ((with_reducible refine an ?_ ?_); focus exact Au))
      refine ret_eq ?_; simp only [go_sem]
      have e2 : cntOk ps c k = false := by
        rw [e]; rcases h1 with h1 | h1
        · rw [decide_eq_false (by omega)]; rfl
        · rw [decide_eq_false (p := c[k] ≤ (ps[k].evs.length : Int)) (by omega), Bool.and_false]
      congr 2; symm
      unfold inRangeF; rw [List.all_eq_false]
      exact ⟨k, List.mem_range.2 hk, by simp [e2]⟩
    · refine ⟨_, List.Sublist.refl _, rfl, fun j hj => ?_⟩
      by_cases ej : j = k
      · rw [ej, e]; simp; omega
      · exact hI j (by omega)
  · rintro vs L' - ⟨rfl, hI⟩
    simp only [go_sem]
    repeat (first | ((with_reducible refine AWp.ofC ?_ ?_); (focus exact rfl); simp only [go_sem]) | ((with_reducible refine an ?_ ?_); focus exact Au))
    refine ret_eq ?_; simp only [go_sem]
    congr 2; symm
    unfold inRangeF; rw [List.all_eq_true]
    exact fun j hj => hI j (List.mem_range.1 hj)
theorem cut_sized1 (ps : List Pr) (c : List Int) : PC Go.Proofs.Tryz.prog 155 [aInts c, .rp 1 [aTr ps] 0 0] (ab (!decide (c.length = ps.length))) := by
  refine PC.enter 10 [.tmp 3] [] Go.Proofs.Tryz.func155 rfl rfl rfl rfl rfl (by simp) (AWp.of ?_); simp only [go_sem]
  repeat (first | ((with_reducible refine AWp.ofC ?_ ?_); (focus exact rfl); simp only [go_sem]) | ((with_reducible refine an ?_ ?_); focus exact Au))
  refine ret_eq ?_; simp only [go_sem]
  congr 2; simp only [Int.natCast_inj]
theorem cut_sized (ps : List Pr) (hs : Sm ps) (l : List (List Int)) (hl : l.length ≤ 1000000) : PC Go.Proofs.Tryz.prog 131 [aTr ps, aRows l] (ab (sizedF ps l)) := by
  refine PC.enter 13 [.tmp 4] [2] Go.Proofs.Tryz.func131 rfl rfl rfl rfl rfl (by simp) (AWp.of ?_); simp only [go_sem]
  repeat (first | ((with_reducible refine AWp.ofC ?_ ?_); (focus exact rfl); simp only [go_sem]) | ((with_reducible refine an ?_ ?_); focus exact Au))
  repeat ((with_reducible refine an ?_ ?_); focus exact As)
  refine (trace_Valid ps hs).val.use ?_; simp only [go_sem]
  repeat ((with_reducible refine an ?_ ?_); focus exact As)
  refine GCall.use (ab (l.any fun c => !decide (c.length = ps.length))) (fun _ => ⟨At, (rows_containsFunc l hl (.clo 155 [.rp 1 [aTr ps] 0 0]) rfl (fun c => !decide (c.length = ps.length)) fun c _ => (cut_sized1 ps c).clo).val.use ⟨rfl, rfl⟩⟩) ?_; simp only [go_sem]
  repeat (first | ((with_reducible refine AWp.ofC ?_ ?_); (focus exact rfl); simp only [go_sem]) | ((with_reducible refine an ?_ ?_); focus exact Au))
  refine ret_eq ?_; simp only [go_sem]
  rfl
end Go.AL
end
section
namespace Go.AL
open Go Go.RowKit
set_option maxRecDepth 4000
theorem missF_hit {ps : List Pr} {c : List Int} {k : Nat} {x : Eid × Ev} (hx : (evIds ps)[k]? = some x) (h0 : ∀ (j : Nat) (y : Eid × Ev), j < k → (evIds ps)[j]? = some y → badEv ps c y = false) (h : badEv ps c x = true) :
    missF ps c = some (findIn (evIds ps) 2 x.2.msg, x.1) := by
  obtain ⟨hk, he⟩ := List.getElem?_eq_some_iff.1 hx
  have : (evIds ps).find? (badEv ps c) = some x := by
    rw [List.find?_eq_some_iff_getElem]
    exact ⟨h, k, hk, he, fun j hj => by simpa using h0 j _ hj (List.getElem?_eq_getElem (by omega))⟩
  unfold missF; rw [this]; rfl
theorem missF_none {ps : List Pr} {c : List Int} (h : ∀ (j : Nat) (y : Eid × Ev), (evIds ps)[j]? = some y → badEv ps c y = false) : missF ps c = none := by
  have : (evIds ps).find? (badEv ps c) = none := by
    rw [List.find?_eq_none]; intro y hy
    obtain ⟨j, hj⟩ := List.getElem?_of_mem hy
    simpa using h j y hj
  unfold missF; rw [this]; rfl
theorem closedF_iff (ps : List Pr) (c : List Int) : closedF ps c = (missF ps c).isNone := by
  unfold closedF missF
  cases h : (evIds ps).find? (badEv ps c) with
  | none =>
    rw [List.find?_eq_none] at h
    have : (evIds ps).any (badEv ps c) = false := by rw [List.any_eq_false]; exact h
    rw [this]; rfl
  | some x =>
    have : (evIds ps).any (badEv ps c) = true := List.any_eq_true.2 ⟨x, List.mem_of_find?_eq_some h, List.find?_some h⟩
    rw [this]; rfl
theorem cut_missing (ps : List Pr) (hs : Sm ps) (c : List Int) (hv : validF ps = true) (hc : c.length = ps.length) (hr : inRangeF ps c = true) : PC Go.Proofs.Tryz.prog 156 [aTr ps, aInts c] (aMiss ps c) := by
  obtain ⟨hl1, hl8⟩ := valid_len hv
  have hfv : ∀ m, findV ps 2 m = findIn (evIds ps) 2 m := fun m => by unfold findV; rw [hv]; rfl
  refine PC.enter 61 [.cell 4 55, .cell 5 55, .tmp 6] [2, 10, 11] Go.Proofs.Tryz.func156 rfl rfl rfl rfl rfl (by simp) (AWp.of ?_); simp only [go_sem]
  intro b4
  intro b5 h5
  have n45 : ¬ b4 = b5 := by omega
  have n54 : ¬ b5 = b4 := by omega
  repeat ((with_reducible refine an ?_ ?_); focus exact As)
  refine AWp.of ?_; simp only [go_sem]
  refine AWp.range' c.length [] [1, 2, 4, 5, 13, 14] (fun k vs L => L = [(b5, .row 55 2 [aEid (0, 0)] 1), (b4, .row 55 2 [aEid (0, 0)] 1)] ∧ ∀ (j : Nat) (y : Eid × Ev), j < off ps k → (evIds ps)[j]? = some y → badEv ps c y = false) (by omega) rfl rfl rfl ⟨by simp [aEid], by simp [off]⟩ ?_ ?_
  · rintro p vs L' hp - ⟨rfl, hI⟩
    have hpp : p < ps.length := by omega
    obtain ⟨hr1, hr2⟩ := inRangeF_get hr hc hpp
    have hel := hs.evs _ (List.getElem_mem hpp)
    have hT : (ps[p].evs.take c[p].toNat).length = c[p].toNat := by rw [List.length_take]; omega
    simp only [go_sem]
    repeat (first | ((with_reducible refine AWp.ofC ?_ ?_); (focus exact rfl); simp only [go_sem, getD_map hp, getD_map hpp, hT]) | ((with_reducible refine an ?_ ?_); focus exact Au))
    refine AWp.range' c[p].toNat [] [1, 2, 4, 5, 7, 13, 14, 15, 27, 28] (fun i vs L => L = [(b5, .row 55 2 [aEid (0, 0)] 1), (b4, .row 55 2 [aEid (0, 0)] 1)] ∧ ∀ (j : Nat) (y : Eid × Ev), j < off ps p + i → (evIds ps)[j]? = some y → badEv ps c y = false) (by omega) rfl rfl rfl ⟨by simp [aEid], hI⟩ ?_ ?_
    · rintro i vs L' hi - ⟨rfl, hI⟩
      have hi' : i < (ps[p].evs.take c[p].toNat).length := by omega
      have hie : i < ps[p].evs.length := by omega
      have hge : (ps[p].evs.take c[p].toNat)[i] = ps[p].evs[i] := List.getElem_take
      have hev := evIds_get hpp hie
      have hbad : badEv ps c (((p : Int), (i : Int) + 1), ps[p].evs[i]) = (decide (ps[p].evs[i].kind = 3) && decide (cAt c (findIn (evIds ps) 2 ps[p].evs[i].msg).1 < (findIn (evIds ps) 2 ps[p].evs[i].msg).2)) := by
        simp only [badEv, cAt_nat hp, decide_eq_true (show (i : Int) + 1 ≤ c[p] by omega), Bool.and_true]
      simp only [go_sem]
      repeat ((with_reducible refine an ?_ ?_); focus exact As)
      refine AWp.of ?_; simp only [go_sem, getD_map hi', hge]
      repeat ((with_reducible refine an ?_ ?_); focus exact As)
      intros
      repeat (first | ((with_reducible refine AWp.ofC ?_ ?_); (focus exact rfl); simp only [go_sem]) | ((with_reducible refine an ?_ ?_); focus exact Au))
      refine ⟨fun h1 => ?_, fun h1 => ?_⟩
      · refine ⟨_, List.Sublist.refl _, rfl, fun j y hj hy => ?_⟩
        by_cases e : j = off ps p + i
        · subst e; rw [hev] at hy; cases hy; rw [hbad, decide_eq_false h1]; rfl
        · exact hI j y (by omega) hy
      · obtain ⟨hf1, hf2⟩ := findIn_proc hl1 2 ps[p].evs[i].msg
        rw [decide_eq_true h1, Bool.true_and] at hbad
        have hs1 := trace_Sender ps hs ps[p].evs[i].msg
        rw [hfv] at hs1
        have hgc := getD_cAt (c := c) hf1 (by omega)
        generalize hsd : findIn (evIds ps) 2 ps[p].evs[i].msg = s at *
        repeat (first | ((with_reducible refine AWp.ofC ?_ ?_); (focus exact rfl); simp only [go_sem]) | ((with_reducible refine an ?_ ?_); focus exact Au))
        repeat ((with_reducible refine an ?_ ?_); focus exact As)
        refine (hs1).val.use ?_; simp only [go_sem]
        repeat ((with_reducible refine an ?_ ?_); focus exact As)
        intros
        refine AWp.seq ?_
        refine AWp.drawn mixed 8 (by kernel_rfl) ?_; simp only [go_sem, hgc]
        repeat ((with_reducible refine an ?_ ?_); focus exact As)
        repeat (first | ((with_reducible refine AWp.ofC ?_ ?_); (focus exact rfl); simp only [go_sem, n45, n54]) | ((with_reducible refine an ?_ ?_); focus exact Au))
        refine ⟨fun h2 => ?_, fun h2 => ?_⟩
        · repeat (first | ((with_reducible refine AWp.ofC ?_ ?_); (focus exact rfl); simp only [go_sem]) | ((with_reducible refine an ?_ ?_); focus exact Au))
          have hm := missF_hit hev hI (by rw [hbad]; exact decide_eq_true h2)
          rw [hsd] at hm
          have hmm : aMiss ps c = .tup [aEid s, aEid ((p : Int), (i : Int) + 1), ab true] := by unfold aMiss; rw [hm]
          rw [hmm]
          refine ret_eq ?_
          simp only [go_sem, n45, n54]
        · refine ⟨_, List.Sublist.refl _, rfl, fun j y hj hy => ?_⟩
          by_cases e : j = off ps p + i
          · subst e; rw [hev] at hy; cases hy; rw [hbad]; exact decide_eq_false h2
          · exact hI j y (by omega) hy
    · rintro vs L' - ⟨rfl, hI⟩
      simp only [go_sem]
      refine ⟨_, List.Sublist.refl _, rfl, fun j y hj hy => ?_⟩
      rw [off_succ hpp] at hj
      by_cases e : j < off ps p + c[p].toNat
      · exact hI j y e hy
      · obtain ⟨i, hi⟩ : ∃ i, j = off ps p + i := ⟨j - off ps p, by omega⟩
        subst hi
        have hie : i < ps[p].evs.length := by omega
        rw [evIds_get hpp hie] at hy; cases hy
        simp only [badEv, cAt_nat hp, decide_eq_false (show ¬ (i : Int) + 1 ≤ c[p] by omega), Bool.and_false, Bool.false_and]
  · rintro vs L' - ⟨rfl, hI⟩
    have hm := missF_none (ps := ps) (c := c) (fun j y hy => hI j y (by rw [hc, ← evIds_length]; exact (List.getElem?_eq_some_iff.1 hy).1) hy)
    have hmm : aMiss ps c = .tup [aEid (0, 0), aEid (0, 0), ab false] := by unfold aMiss; rw [hm]
    simp only [go_sem]
    repeat (first | ((with_reducible refine AWp.ofC ?_ ?_); (focus exact rfl); simp only [go_sem, n45, n54]) | ((with_reducible refine an ?_ ?_); focus exact Au))
    rw [hmm]
    refine ret_eq ?_
    simp only [go_sem, n45, n54]
theorem cut_closed (ps : List Pr) (hs : Sm ps) (c : List Int) (hv : validF ps = true) (hc : c.length = ps.length) (hr : inRangeF ps c = true) : PC Go.Proofs.Tryz.prog 134 [aTr ps, aInts c] (ab (closedF ps c)) := by
  have hm := cut_missing ps hs c hv hc hr
  rw [closedF_iff]
  unfold aMiss at hm
  refine PC.enter 17 [.tmp 4] [2, 5, 6] Go.Proofs.Tryz.func134 rfl rfl rfl rfl rfl (by simp) (AWp.of ?_); simp only [go_sem]
  repeat (first | ((with_reducible refine AWp.ofC ?_ ?_); (focus exact rfl); simp only [go_sem]) | ((with_reducible refine an ?_ ?_); focus exact Au))
  cases h : missF ps c with
  | none =>
    rw [h] at hm
    repeat ((with_reducible refine an ?_ ?_); focus exact As)
    refine (hm).val.use ?_; simp only [go_sem]
    repeat ((with_reducible refine an ?_ ?_); focus exact As)
    intro b5 b6 h6
    have n56 : ¬ b5 = b6 := by omega
    have n65 : ¬ b6 = b5 := by omega
    simp only [go_sem, n56]
    repeat (first | ((with_reducible refine AWp.ofC ?_ ?_); (focus exact rfl); simp only [go_sem]) | ((with_reducible refine an ?_ ?_); focus exact Au))
    refine ret_eq ?_; simp only [go_sem]
    rfl
  | some x =>
    obtain ⟨a, b⟩ := x
    rw [h] at hm
    repeat ((with_reducible refine an ?_ ?_); focus exact As)
    refine (hm).val.use ?_; simp only [go_sem]
    repeat ((with_reducible refine an ?_ ?_); focus exact As)
    intro b5 b6 h6
    have n56 : ¬ b5 = b6 := by omega
    have n65 : ¬ b6 = b5 := by omega
    simp only [go_sem, n56]
    repeat (first | ((with_reducible refine AWp.ofC ?_ ?_); (focus exact rfl); simp only [go_sem]) | ((with_reducible refine an ?_ ?_); focus exact Au))
    refine ret_eq ?_; simp only [go_sem]
    rfl
theorem sizedF_inv {ps : List Pr} {l : List (List Int)} (h : sizedF ps l = true) : validF ps = true ∧ ∀ c ∈ l, c.length = ps.length := by
  unfold sizedF at h
  rw [Bool.and_eq_true] at h
  refine ⟨h.1, fun c hc => ?_⟩
  have := h.2
  rw [Bool.not_eq_true', List.any_eq_false] at this
  simpa using this c hc
theorem all_of_lt {α : Type} {l : List α} {p : α → Bool} (h : ∀ (i : Nat) (hi : i < l.length), p l[i] = true) : l.all p = true := by
  rw [List.all_eq_true]; intro x hx; obtain ⟨i, hi, rfl⟩ := List.getElem_of_mem hx; exact h i hi
theorem all_false_at {α : Type} {l : List α} {p : α → Bool} {i : Nat} (hi : i < l.length) (h : p l[i] = false) : l.all p = false := by
  rw [List.all_eq_false]; exact ⟨l[i], List.getElem_mem hi, by simp [h]⟩
theorem cut_given (ps : List Pr) (hs : Sm ps) (l : List (List Int)) (hl : l.length ≤ 1000000) (procs : List Int) (hp : procs.length ≤ 1000000) : PC Go.Proofs.Tryz.prog 97 [aTr ps, aRows l, aInts procs] (ai (givenF ps l procs)) := by
  refine PC.enter 50 [.tmp 6] [3] Go.Proofs.Tryz.func97 rfl rfl rfl rfl rfl (by simp) (AWp.of ?_); simp only [go_sem]
  repeat (first | ((with_reducible refine AWp.ofC ?_ ?_); (focus exact rfl); simp only [go_sem]) | ((with_reducible refine an ?_ ?_); focus exact Au))
  repeat ((with_reducible refine an ?_ ?_); focus exact As)
  refine (cut_sized ps hs l hl).val.use ?_; simp only [go_sem]
  repeat (first | ((with_reducible refine AWp.ofC ?_ ?_); (focus exact rfl); simp only [go_sem]) | ((with_reducible refine an ?_ ?_); focus exact Au))
  refine ⟨fun h1 => ?_, fun h1 => ?_⟩
  · repeat (first | ((with_reducible refine AWp.ofC ?_ ?_); (focus exact rfl); simp only [go_sem]) | ((with_reducible refine an ?_ ?_); focus exact Au))
    refine ret_eq ?_; simp only [go_sem]
    unfold givenF; rw [if_pos (by simp [h1])]
  · obtain ⟨hv, hc⟩ := sizedF_inv h1
    repeat ((with_reducible refine an ?_ ?_); focus exact As)
    refine AWp.of ?_; simp only [go_sem]
    refine AWp.range' l.length [] [1, 2, 3, 17, 18] (fun k vs L => L = [] ∧ ∀ (i : Nat) (hi : i < l.length), i < k → inRangeF ps l[i] = true) (by omega) rfl rfl rfl ⟨rfl, by omega⟩ ?_ ?_
    · rintro k vs L' hk - ⟨rfl, hI⟩
      simp only [go_sem]
      repeat ((with_reducible refine an ?_ ?_); focus exact As)
      refine AWp.of ?_; simp only [go_sem, getD_map hk]
      repeat (first | ((with_reducible refine AWp.ofC ?_ ?_); (focus exact rfl); simp only [go_sem]) | ((with_reducible refine an ?_ ?_); focus exact Au))
      repeat ((with_reducible refine an ?_ ?_); focus exact As)
      refine (cut_inRange ps hs l[k] (hc _ (List.getElem_mem hk))).val.use ?_; simp only [go_sem]
      repeat (first | ((with_reducible refine AWp.ofC ?_ ?_); (focus exact rfl); simp only [go_sem]) | ((with_reducible refine an ?_ ?_); focus exact Au))
      refine ⟨fun h2 => ?_, fun h2 => ?_⟩
      · repeat (first | ((with_reducible refine AWp.ofC ?_ ?_); (focus exact rfl); simp only [go_sem]) | ((with_reducible refine an ?_ ?_); focus exact Au))
        refine ret_eq ?_; simp only [go_sem]
        unfold givenF; rw [if_neg (by simp [h1]), if_pos (by rw [all_false_at hk h2]; rfl)]
      · refine ⟨_, List.Sublist.refl _, rfl, fun i hi hik => ?_⟩
        by_cases e : i = k
        · subst e; exact h2
        · exact hI i hi (by omega)
    · rintro vs L' - ⟨rfl, hI⟩
      have ha := all_of_lt (p := inRangeF ps) (fun i hi => hI i hi hi)
      simp only [go_sem]
      repeat ((with_reducible refine an ?_ ?_); focus exact As)
      refine AWp.of ?_; simp only [go_sem]
      refine AWp.range' procs.length [] [1, 3, 28, 29] (fun k vs L => L = [] ∧ ∀ (i : Nat) (hi : i < procs.length), i < k → (decide (0 ≤ procs[i]) && decide (procs[i] < ps.length)) = true) (by omega) rfl rfl rfl ⟨rfl, by omega⟩ ?_ ?_
      · rintro k vs L' hk - ⟨rfl, hI⟩
        simp only [go_sem]
        repeat ((with_reducible refine an ?_ ?_); focus exact As)
        refine AWp.of ?_; simp only [go_sem, getD_map hk]
        repeat (first | ((with_reducible refine AWp.ofC ?_ ?_); (focus exact rfl); simp only [go_sem]) | ((with_reducible refine an ?_ ?_); focus exact Au))
        repeat ((with_reducible refine an ?_ ?_); focus exact As)
        refine (cut_process ps procs[k]).val.use ?_; simp only [go_sem]
        repeat (first | ((with_reducible refine AWp.ofC ?_ ?_); (focus exact rfl); simp only [go_sem]) | ((with_reducible refine an ?_ ?_); focus exact Au))
        refine ⟨fun h2 => ?_, fun h2 h3 => ?_⟩
        · repeat (first | ((with_reducible refine AWp.ofC ?_ ?_); (focus exact rfl); simp only [go_sem]) | ((with_reducible refine an ?_ ?_); focus exact Au))
          refine ret_eq ?_; simp only [go_sem]
          unfold givenF; rw [if_neg (by simp [h1]), if_neg (by simp [ha]), if_pos (by rw [all_false_at hk (by simpa using h2)]; rfl)]
        · refine ⟨_, List.Sublist.refl _, rfl, fun i hi hik => ?_⟩
          by_cases e : i = k
          · subst e; exact ⟨h2, h3⟩
          · have := hI i hi (by omega); simpa using this
      · rintro vs L' - ⟨rfl, hI⟩
        have hb := all_of_lt (l := procs) (p := fun p => decide (0 ≤ p) && decide (p < (ps.length : Int))) (fun i hi => by have := hI i hi hi; simpa using this)
        simp only [go_sem]
        repeat ((with_reducible refine an ?_ ?_); focus exact As)
        refine AWp.of ?_; simp only [go_sem]
        refine AWp.range' l.length [] [3, 39, 40] (fun k vs L => L = [] ∧ ∀ (i : Nat) (hi : i < l.length), i < k → closedF ps l[i] = true) (by omega) rfl rfl rfl ⟨rfl, by omega⟩ ?_ ?_
        · rintro k vs L' hk - ⟨rfl, hI⟩
          have hir : inRangeF ps l[k] = true := by rw [List.all_eq_true] at ha; exact ha _ (List.getElem_mem hk)
          simp only [go_sem]
          repeat ((with_reducible refine an ?_ ?_); focus exact As)
          refine AWp.of ?_; simp only [go_sem, getD_map hk]
          repeat (first | ((with_reducible refine AWp.ofC ?_ ?_); (focus exact rfl); simp only [go_sem]) | ((with_reducible refine an ?_ ?_); focus exact Au))
          repeat ((with_reducible refine an ?_ ?_); focus exact As)
          refine (cut_closed ps hs l[k] hv (hc _ (List.getElem_mem hk)) hir).val.use ?_; simp only [go_sem]
          repeat (first | ((with_reducible refine AWp.ofC ?_ ?_); (focus exact rfl); simp only [go_sem]) | ((with_reducible refine an ?_ ?_); focus exact Au))
          refine ⟨fun h2 => ?_, fun h2 => ?_⟩
          · repeat (first | ((with_reducible refine AWp.ofC ?_ ?_); (focus exact rfl); simp only [go_sem]) | ((with_reducible refine an ?_ ?_); focus exact Au))
            refine ret_eq ?_; simp only [go_sem]
            unfold givenF; rw [if_neg (by simp [h1]), if_neg (by simp [ha]), if_neg (by rw [hb]; decide), if_pos (by rw [all_false_at hk h2]; rfl)]
          · refine ⟨_, List.Sublist.refl _, rfl, fun i hi hik => ?_⟩
            by_cases e : i = k
            · subst e; exact h2
            · exact hI i hi (by omega)
        · rintro vs L' - ⟨rfl, hI⟩
          have hd := all_of_lt (p := closedF ps) (fun i hi => hI i hi hi)
          simp only [go_sem]
          repeat (first | ((with_reducible refine AWp.ofC ?_ ?_); (focus exact rfl); simp only [go_sem]) | ((with_reducible refine an ?_ ?_); focus exact Au))
          refine ret_eq ?_; simp only [go_sem]
          unfold givenF; rw [if_neg (by simp [h1]), if_neg (by simp [ha]), if_neg (by rw [hb]; decide), if_neg (by rw [hd]; decide)]
theorem frontL_append (l r : List Int) (p : Nat) : frontL p (l ++ r) = frontL p l ++ frontL (p + l.length) r := by
  induction l generalizing p with
  | nil => rfl
  | cons n l ih => simp only [List.cons_append, frontL, ih, List.append_assoc, List.length_cons]; rw [show p + 1 + l.length = p + (l.length + 1) by omega]
theorem frontL_length (l : List Int) (p : Nat) : (frontL p l).length ≤ l.length := by
  induction l generalizing p with
  | nil => simp [frontL]
  | cons n l ih =>
    have := ih (p + 1)
    simp only [frontL, List.length_append, List.length_cons]
    split <;> simp <;> omega
theorem frontL_succ (c : List Int) (k : Nat) (hk : k < c.length) : frontL 0 (c.take (k + 1)) = frontL 0 (c.take k) ++ (if 0 < c[k] then [((k : Int), c[k])] else []) := by
  rw [List.take_succ_eq_append_getElem hk, frontL_append]
  simp only [frontL, List.append_nil, List.length_take]
  rw [show 0 + min k c.length = k by omega]
theorem cut_Frontier (ps : List Pr) (hs : Sm ps) (c : List Int) (hcl : c.length ≤ 1000000) : PC Go.Proofs.Tryz.prog 108 [aTr ps, aInts c] (aFront ps c) := by
  have hg := cut_given ps hs [c] (by simp) [] (by simp)
  refine PC.enter 34 [.tmp 4, .tmp 5] [2, 12, 30] Go.Proofs.Tryz.func108 rfl rfl rfl rfl rfl (by simp) (AWp.of ?_); simp only [go_sem]
  repeat (first | ((with_reducible refine AWp.ofC ?_ ?_); (focus exact rfl); simp only [go_sem]) | ((with_reducible refine an ?_ ?_); focus exact Au))
  refine (PC.view (Vws.cons (.refl _) (Vws.cons (.refl _) (Vws.cons (.nil 1) .nil))) hg (Own.v _) ?_).val
  unfold aFront
  simp only [go_sem]
  repeat (first | ((with_reducible refine AWp.ofC ?_ ?_); (focus exact rfl); simp only [go_sem]) | ((with_reducible refine an ?_ ?_); focus exact Au))
  refine ⟨fun h1 => ?_, fun h1 => ?_⟩
  · rw [if_pos h1]
    repeat (first | ((with_reducible refine AWp.ofC ?_ ?_); (focus exact rfl); simp only [go_sem]) | ((with_reducible refine an ?_ ?_); focus exact Au))
    refine ret_view [] ?_; simp only [go_sem]
    exact .mkTup (Vws.cons (.nil 2) (Vws.refl _))
  · rw [if_neg (by simp [h1])]
    repeat ((with_reducible refine an ?_ ?_); focus exact As)
    refine AWp.of ?_; simp only [go_sem]
    repeat ((with_reducible refine an ?_ ?_); focus exact As)
    refine AWp.of ?_; simp only [go_sem]
    refine AWp.range' c.length [7] [17, 18] (fun k vs L => ∃ v, vs = [v] ∧ AppSt 55 2 ((frontL 0 (c.take k)).map aEid) v L) (by omega) rfl rfl rfl ⟨anil, rfl, by simp only [List.take_zero, frontL, List.map_nil]; exact .nil⟩ ?_ ?_
    · rintro k vs L' hk - ⟨v, rfl, hA⟩
      have hfl := frontL_length (c.take k) 0
      have htl : (c.take k).length ≤ c.length := by simp; omega
      have hsu := frontL_succ c k hk
      rcases hA.inv with ⟨e1, rfl, rfl⟩ | ⟨b, cap, rfl, rfl⟩
      · simp only [go_sem]
        repeat ((with_reducible refine an ?_ ?_); focus exact As)
        refine AWp.of ?_; simp only [go_sem, getD_map hk]
        repeat (first | ((with_reducible refine AWp.ofC ?_ ?_); (focus exact rfl); simp only [go_sem]) | ((with_reducible refine an ?_ ?_); focus exact Au))
        refine ⟨fun h2 => ?_, fun h2 => ?_⟩
        · repeat (first | ((with_reducible refine AWp.ofC ?_ ?_); (focus exact rfl); simp only [go_sem]) | ((with_reducible refine an ?_ ?_); focus exact Au))
          intro b' cap' _
          refine ⟨_, List.Sublist.refl _, _, rfl, ?_⟩
          rw [hsu, if_pos h2, List.map_append, e1]
          exact .row b' _ cap'
        · exact ⟨_, List.Sublist.refl _, _, rfl, by rw [hsu, if_neg h2, List.append_nil]; exact hA⟩
      · simp only [go_sem]
        repeat ((with_reducible refine an ?_ ?_); focus exact As)
        refine AWp.of ?_; simp only [go_sem, getD_map hk]
        repeat (first | ((with_reducible refine AWp.ofC ?_ ?_); (focus exact rfl); simp only [go_sem]) | ((with_reducible refine an ?_ ?_); focus exact Au))
        refine ⟨fun h2 => ?_, fun h2 => ?_⟩
        · repeat ((with_reducible refine an ?_ ?_); focus exact As)
          intro b' cap' _
          refine ⟨_, List.Sublist.refl _, _, rfl, ?_⟩
          rw [hsu, if_pos h2, List.map_append]
          have := AppSt.row (t := 55) (k := 2) b' (List.map aEid (frontL 0 (List.take k c)) ++ List.map aEid [((k : Int), c[k])]) cap'
          simpa [aEid] using this
        · exact ⟨_, List.Sublist.refl _, _, rfl, by rw [hsu, if_neg h2, List.append_nil]; simpa using hA⟩
    · rintro vs L' - ⟨v, rfl, hA⟩
      rw [List.take_length] at hA
      simp only [go_sem]
      rcases hA.inv with ⟨e1, rfl, rfl⟩ | ⟨b, cap, rfl, rfl⟩
      · repeat (first | ((with_reducible refine AWp.ofC ?_ ?_); (focus exact rfl); simp only [go_sem]) | ((with_reducible refine an ?_ ?_); focus exact Au))
        refine ret_view [] ?_; simp only [go_sem]
        rw [e1]
        exact .mkTup (Vws.cons (.nil 2) (Vws.refl _))
      · repeat (first | ((with_reducible refine AWp.ofC ?_ ?_); (focus exact rfl); simp only [go_sem]) | ((with_reducible refine an ?_ ?_); focus exact Au))
        refine ret_view [true] ?_; simp only [go_sem]
        exact .mkTup (Vws.cons (Vw.ofLs (if_pos rfl) (by simp)) (Vws.refl _))
end Go.AL
end
