/- Texts of this claim's proof: WSp, WCp, WCk, WEx, WRr, WEy, WPq, WNa, WNb, WTm, WDx, WPu, WNc, WQa, WQb, WQc, WQf, WQg, WQh, WQi, WNe, WOa, WQd. No condition. -/
import Derived.Test.YtmnabhohlflkkaaGreatM9
import Derived.Test.YtmnabhohlflkkaaGreatM8
import Derived.Test.YtmnabhohlflkkaaGreatM6
section
/- The package conjunctive: what Possibly and Steps return. No condition. -/
namespace Go.AL
open Go Go.RowKit
set_option maxRecDepth 4000
noncomputable def aPossR (ps : List Pr) (ts : List Pd) : AV := if conF ps ts = 0 then .tup [aAns (ansOf (elimOf ps ts)), ai 0] else .tup [aAns noAns, ai (conF ps ts)]
end Go.AL
end
section
/- What certificates say. Plain laws. No condition. -/
namespace Go.AL
open Go Go.RowKit
set_option maxRecDepth 4000
abbrev Spn := Int × Int × Int
def spOk (E : Elim) (now : Nat → Nat) (s : Spn) : Bool := !lostB E now && (decide (0 ≤ s.1) && decide (s.1 < E.n) && decide (s.2.1 = now s.1.toNat) && decide (s.2.1 ≤ s.2.2) && decide (s.2.2 ≤ E.top s.1.toNat))
def spEx (E : Elim) (now : Nat → Nat) (s : Spn) : Bool := (List.range (s.2.2.toNat + 1 - s.2.1.toNat)).all fun j => exB E now s.1.toNat (s.2.1.toNat + j)
def endsG (E : Elim) : List Spn → (Nat → Nat) → Bool
  | [], now => lostB E now
  | s :: r, now => if spOk E now s = true ∧ spEx E now s = true then endsG E r (updN now s.1.toNat (s.2.2.toNat + 1)) else false
/-- A list of counts is a consistent cut at which the locals are true. -/
def satG (ps : List Pr) (E : Elim) (c : List Int) : Bool := isF ps c && (List.range c.length).all fun p => E.ok p (cAt c p).toNat
noncomputable def checkG (ps : List Pr) (ts : List Pd) (a : Ans) : Bool :=
  if conF ps ts = 0 ∧ a.mode = 1 ∧ a.cuts = [] ∧ a.run = [] ∧ a.value = 0 then
    if a.holds = true then decide (a.kind = 1) && decide (a.spans = []) && satG ps (elimOf ps ts) a.cut
    else decide (a.kind = 4) && decide (a.cut = []) && endsG (elimOf ps ts) a.spans fun _ => 0
  else false
section
variable {ps : List Pr} {ts : List Pd}
end
end Go.AL
end
section
/- The package conjunctive: Check. No condition. -/
namespace Go.AL
open Go Go.RowKit
set_option maxRecDepth 4000
theorem cut_Consistent (ps : List Pr) (hs : Sm ps) (c : List Int) : PC Go.Proofs.Tryz.prog 29 [aTr ps, aInts c] (ab (decide (givenF ps [c] [] = 0))) := by
  have hg := cut_given ps hs [c] (by simp) [] (by simp)
  generalize givenF ps [c] [] = G at *
  refine PC.enter 10 [.tmp 4] [2, 7] Go.Proofs.Tryz.func29 rfl rfl rfl rfl rfl (by simp) (AWp.of ?_); simp only [go_sem]
  repeat (first | ((with_reducible refine AWp.ofC ?_ ?_); (focus exact rfl); simp only [go_sem]) | ((with_reducible refine an ?_ ?_); focus exact Au))
  refine (PC.view (Vws.cons (.refl _) (Vws.cons (.refl _) (Vws.cons (.nil 1) .nil))) hg (Own.v _) ?_).val
  simp only [go_sem]
  repeat (first | ((with_reducible refine AWp.ofC ?_ ?_); (focus exact rfl); simp only [go_sem]) | ((with_reducible refine an ?_ ?_); focus exact Au))
  refine ret_eq ?_; simp only [go_sem]
end Go.AL
end
section
/- The reference of layer 37: faults, and which states are excluded. No condition. -/
namespace Go.AL
open Go Go.RowKit
set_option maxRecDepth 4000
end Go.AL
end
section
/- How many steps an elimination has. Plain law. No condition. -/
namespace Go.AL
open Go Go.RowKit
set_option maxRecDepth 4000
end Go.AL
end
section
/- The reference of layer 37: steps of elimination. No condition. -/
namespace Go.AL
open Go Go.RowKit
set_option maxRecDepth 4000
end Go.AL
end
section
/- Whether a cut may be dropped: the package prune and the reference of layer 49. No condition. -/
namespace Go.AL
open Go Go.RowKit
set_option maxRecDepth 4000
def leqF (a b : List Int) : Bool := decide (a.length = b.length) && (List.range a.length).all fun i => decide (a.getD i 0 ≤ b.getD i 0)
theorem leqF_ne {a b : List Int} (h : ¬ a.length = b.length) : leqF a b = false := by unfold leqF; rw [decide_eq_false h]; rfl
theorem leqF_no {a b : List Int} {i : Nat} (hi : i < a.length) (h : b.getD i 0 < a.getD i 0) : leqF a b = false := by
  unfold leqF
  rw [List.all_eq_false.2 ⟨i, List.mem_range.2 hi, by simpa using h⟩, Bool.and_false]
theorem leqF_yes {a b : List Int} (hl : a.length = b.length) (h : ∀ i, i < a.length → a.getD i 0 ≤ b.getD i 0) : leqF a b = true := by
  unfold leqF
  rw [decide_eq_true hl, Bool.true_and, List.all_eq_true]
  exact fun i hi => decide_eq_true (h i (List.mem_range.1 hi))
theorem leqF_iff {a b : List Int} : leqF a b = true ↔ a.length = b.length ∧ ∀ i, i < a.length → a.getD i 0 ≤ b.getD i 0 := by
  unfold leqF
  rw [Bool.and_eq_true, List.all_eq_true, decide_eq_true_eq]
  exact ⟨fun h => ⟨h.1, fun i hi => of_decide_eq_true (h.2 i (List.mem_range.2 hi))⟩, fun h => ⟨h.1, fun i hi => decide_eq_true (h.2 i (List.mem_range.1 hi))⟩⟩
theorem getD_ai2 {x : List Int} {i : Nat} (hi : i < x.length) : (x.map ai).getD i .any = ai (x.getD i 0) := by
  rw [getD_map hi, List.getD_eq_getElem?_getD, List.getElem?_eq_getElem hi]; rfl
theorem cut_Leq (a b : List Int) (ha : a.length ≤ 1000000) : PC Go.Proofs.Tryz.prog 72 [aInts a, aInts b] (ab (leqF a b)) := by
  by_cases hl : a.length = b.length
  · have hli : (a.length : Int) = b.length := by omega
    have hno := fun i hi h => leqF_no (a := a) (b := b) (i := i) hi h
    have hyes := leqF_yes hl
    generalize leqF a b = B at *
    refine PC.enter 26 [.tmp 4] [] Go.Proofs.Tryz.func72 rfl rfl rfl rfl rfl (by simp) (AWp.of ?_); simp only [go_sem]
    repeat (first | ((with_reducible refine AWp.ofC ?_ ?_); (focus exact rfl); simp only [go_sem, hli]) | ((with_reducible refine an ?_ ?_); focus exact Au))
    refine AWp.range' b.length [] [0, 1, 12] (fun i vs L => L = [] ∧ ∀ j, j < i → a.getD j 0 ≤ b.getD j 0) (by omega) rfl rfl rfl ⟨rfl, fun j h => by omega⟩ ?_ ?_
    · rintro i vs L hi - ⟨rfl, hJ⟩
      have ga := getD_ai2 (show i < a.length by omega)
      have gb := getD_ai2 hi
      have hno := hno i (by omega)
      simp only [go_sem]
      repeat (first | ((with_reducible refine AWp.ofC ?_ ?_); (focus exact rfl); simp only [go_sem]) | ((with_reducible refine an ?_ ?_); focus exact Au))
      refine AWp.seq ?_
      repeat (first | (with_reducible refine AWp.seq ?_) | (with_reducible refine AWp.block ?_))
      refine AWp.mix mixed [0, 1, 2, 3, 4, 5, 6, 7, 8] .done (by kernel_rfl) ?_; simp only [go_sem, ga, gb, hli]
      repeat ((with_reducible refine an ?_ ?_); focus exact As)
      repeat (first | ((with_reducible refine AWp.ofC ?_ ?_); (focus exact rfl); simp only [go_sem]) | ((with_reducible refine an ?_ ?_); focus exact Au))
      refine ⟨fun h1 => ?_, fun h1 => ?_⟩
      · repeat (first | ((with_reducible refine AWp.ofC ?_ ?_); (focus exact rfl); simp only [go_sem]) | ((with_reducible refine an ?_ ?_); focus exact Au))
        refine ret_eq ?_; simp only [go_sem]
        rw [hno h1]
      · refine ⟨_, List.Sublist.refl _, rfl, fun j hj => ?_⟩
        by_cases e : j = i
        · subst e; omega
        · exact hJ j (by omega)
    · rintro vs L - ⟨rfl, hJ⟩
      simp only [go_sem]
      repeat (first | ((with_reducible refine AWp.ofC ?_ ?_); (focus exact rfl); simp only [go_sem]) | ((with_reducible refine an ?_ ?_); focus exact Au))
      refine ret_eq ?_; simp only [go_sem]
      rw [hyes fun i hi => hJ i (by omega)]
  · have hli : ¬ (a.length : Int) = b.length := by omega
    rw [leqF_ne hl]
    refine PC.enter 26 [.tmp 4] [] Go.Proofs.Tryz.func72 rfl rfl rfl rfl rfl (by simp) (AWp.of ?_); simp only [go_sem]
    repeat (first | ((with_reducible refine AWp.ofC ?_ ?_); (focus exact rfl); simp only [go_sem, hli]) | ((with_reducible refine an ?_ ?_); focus exact Au))
    refine ret_eq ?_; simp only [go_sem]
noncomputable def safeF (ps : List Pr) (ts : List Pd) (c : List Int) : Bool := lostF (elimOf ps ts) || leqF c (cutL ps.length (finF (elimOf ps ts)))
noncomputable def safeE (ps : List Pr) (ts : List Pd) (c : List Int) : Int := if conF ps ts ≠ 0 then conF ps ts else givenF ps [c] []
end Go.AL
end
section
/- The package cuts: the list as one's own, what is deleted of it, lists that are no cuts, Find, Between. No condition. -/
namespace Go.AL
open Go Go.RowKit
set_option maxRecDepth 4000
def OwnS (xs : List (List Int)) (v : AV) (L : AHeap) : Prop :=
  (xs = [] ∧ v = anil ∧ L = []) ∨ ∃ b cap ws, v = .ls b 1 0 xs.length cap ∧ L = [(b, .row 42 1 (xs.map aInts ++ ws) cap)]
theorem OwnS.fo {xs : List (List Int)} {v : AV} {L : AHeap} (h : OwnS xs v L) : AL.fo v = (True, v) := by
  rcases h with ⟨_, rfl, _⟩ | ⟨b, cap, ws, rfl, _⟩ <;> rfl
/-! Deleting. -/
/-! What is no cut. -/
noncomputable def chkE (ps : List Pr) (l : List (List Int)) : Int := if validF ps = true then (if (l.any fun c => !isF ps c) = true then 18 else 0) else 1
end Go.AL
end
section
/- The package cuts: Find, Between. No condition. -/
namespace Go.AL
open Go Go.RowKit
set_option maxRecDepth 4000
def idxF (l : List (List Int)) (c : List Int) : Int := match l.findIdx? fun d => decide (c = d) with | some i => (i : Int) | none => -1
noncomputable def fndE (ps : List Pr) (l : List (List Int)) : Int := if chkE ps l ≠ 0 then chkE ps l else lstE ps
noncomputable def fndI (ps : List Pr) (c : List Int) : Int := if fndE ps [c] = 0 then idxF (cutsF ps) c else 0
noncomputable def btwF (ps : List Pr) (a b : List Int) : List (List Int) := if fndE ps [a, b] = 0 then (cutsF ps).filter fun c => leqF a c && leqF c b else []
end Go.AL
end
section
/- A rewritten tree says at the rest of a cut what the tree says at the cut. Plain laws. No condition. -/
namespace Go.AL
open Go Go.RowKit
set_option maxRecDepth 4000
section
variable {ps : List Pr} {c : List Int}
/-! ### Values -/
variable {j : List Int} {ch : Int → Int → Int}
end
end Go.AL
end
section
/- Detection goes on after dropping. Plain laws. No condition. -/
namespace Go.AL
open Go Go.RowKit
set_option maxRecDepth 4000
section
variable {ps : List Pr} {c : List Int}
/-! ### Cuts of the dropped trace -/
end
end Go.AL
end
section
/- The cuts that contain what was dropped remain: plain laws. No condition. -/
namespace Go.AL
open Go Go.RowKit
set_option maxRecDepth 4000
/-! ### The order of the list of cuts -/
def ordL (a b : List Int) : Prop := a.sum < b.sum ∨ (a.sum = b.sum ∧ cmpL a b < 0)
theorem ordL_irr {a : List Int} (h : ordL a a) : False := by
  rcases h with h | ⟨_, h⟩
  · omega
  · rw [cmpL_irr] at h; omega
theorem cum_ord {ps : List Pr} (hv : validF ps = true) : ∀ n, (cumF ps n).Pairwise ordL ∧ ∀ x ∈ cumF ps n, x.sum < n
  | 0 => ⟨List.Pairwise.nil, fun x hx => by cases hx⟩
  | n + 1 => by
    obtain ⟨h1, h2⟩ := cum_ord hv n
    rw [cumF_succ]
    have hl : ∀ x ∈ levF ps n, x.sum = n := fun x hx => ((mem_levF hv n x).1 hx).2
    refine ⟨List.pairwise_append.2 ⟨h1, ?_, fun x hx y hy => .inl (by rw [hl y hy]; exact h2 x hx)⟩, fun x hx => ?_⟩
    · refine (asc_lev hv n).imp_of_mem fun {a b} ha hb hab => .inr ⟨by rw [hl a ha, hl b hb], hab⟩
    · rcases List.mem_append.1 hx with hx | hx
      · have := h2 x hx; omega
      · have := hl x hx; omega
theorem cuts_ord {ps : List Pr} (hv : validF ps = true) : (cutsF ps).Pairwise ordL := (cum_ord hv _).1
theorem isF_given {ps : List Pr} (hv : validF ps = true) {c : List Int} : givenF ps [c] [] = 0 ↔ isF ps c = true := by
  rw [givenL, isF_iff]; simp [hv]
/-! ### Dropping twice -/
end Go.AL
end
section
/- The lattice of cuts, plainly. No condition. -/
namespace Go.AL
open Go Go.RowKit
set_option maxRecDepth 4000
def meetL (c d : List Int) : List Int := List.zipWith (fun x y => if y < x then y else x) c d
theorem leq_iff_at {a b : List Int} : leqF a b = true ↔ a.length = b.length ∧ ∀ p : Nat, p < a.length → cAt a p ≤ cAt b p := leqF_iff
theorem leq_refl (a : List Int) : leqF a a = true := leq_iff_at.2 ⟨rfl, fun _ _ => Int.le_refl _⟩
theorem leq_sum : ∀ {a b : List Int}, leqF a b = true → a.sum ≤ b.sum ∧ (a.sum = b.sum → a = b)
  | [], [], _ => ⟨Int.le_refl _, fun _ => rfl⟩
  | [], _ :: _, h => by have := (leqF_iff.1 h).1; simp at this
  | _ :: _, [], h => by have := (leqF_iff.1 h).1; simp at this
  | x :: a, y :: b, h => by
    obtain ⟨h1, h2⟩ := leqF_iff.1 h
    have h0 : x ≤ y := by simpa using h2 0 (by simp)
    obtain ⟨i1, i2⟩ := leq_sum (a := a) (b := b) (leqF_iff.2 ⟨by simpa using h1, fun i hi => by have := h2 (i + 1) (by simpa using hi); simpa using this⟩)
    rw [List.sum_cons, List.sum_cons]
    refine ⟨by omega, fun h => ?_⟩
    rw [i2 (by omega), show x = y by omega]
section
variable {A : List (List Int)} (hA : A.Pairwise ordL)
include hA
theorem ord_get {i j : Nat} (hi : i < A.length) (hj : j < A.length) (h : i < j) : ordL A[i] A[j] := List.pairwise_iff_getElem.1 hA i j hi hj h
theorem ord_inj {i j : Nat} (hi : i < A.length) (hj : j < A.length) (h : A[i] = A[j]) : i = j := by
  rcases Nat.lt_trichotomy i j with h1 | h1 | h1
  · have := ord_get hA hi hj h1; rw [h] at this; exact (ordL_irr this).elim
  · exact h1
  · have := ord_get hA hj hi h1; rw [h] at this; exact (ordL_irr this).elim
theorem idx_get {i : Nat} (hi : i < A.length) : idxF A A[i] = i := by
  have : A.findIdx? (fun d => decide (A[i] = d)) = some i := by
    rw [List.findIdx?_eq_some_iff_getElem]
    refine ⟨hi, decide_eq_true rfl, fun j hj h => ?_⟩
    have := ord_inj hA hi (by omega) (of_decide_eq_true h)
    omega
  unfold idxF
  rw [this]
theorem idx_leq {i j : Nat} (hi : i < A.length) (hj : j < A.length) (h : leqF A[i] A[j] = true) : i ≤ j := by
  rcases Nat.lt_or_ge j i with h1 | h1
  · exfalso
    obtain ⟨s1, s2⟩ := leq_sum h
    have ho := ord_get hA hj hi h1
    rcases ho with ho | ⟨e, ho⟩
    · omega
    · have := s2 e.symm
      rw [this, cmpL_irr] at ho
      omega
  · exact h1
end
structure LatD (ps : List Pr) (A : List (List Int)) (i j : Nat) (a b u d : List Int) : Prop where
  is : isF ps a = true ∧ isF ps b = true ∧ isF ps u = true ∧ isF ps d = true
  bef : i < j → befF a b = true
  ia : idxF A a = i
  iu : ∃ m : Nat, idxF A u = m ∧ i ≤ m ∧ j ≤ m
  id : ∃ m : Nat, idxF A d = m ∧ m ≤ i ∧ m ≤ j
  btw : ∀ c, c = a ∨ c = b ∨ c = u ∨ c = d → c ∈ A.filter fun x => leqF d x && leqF x u
  sum : 0 ≤ a.sum ∧ a.sum ≤ off ps ps.length
  lev : a ∈ levF ps a.sum.toNat
  zero : a.sum = 0 → i = 0 ∧ (levF ps a.sum.toNat).length = 1
  low : 0 < a.sum → ∃ x ∈ levF ps (a.sum - 1).toNat, x.length = a.length ∧ leqF x a = true
end Go.AL
end
section
/- Runs, plainly: the least walks of cuts. No condition. -/
namespace Go.AL
open Go Go.RowKit
set_option maxRecDepth 4000
theorem argmin (f : Nat → Nat) (P : Nat → Prop) : ∀ n, (∃ p, p < n ∧ P p) → ∃ p, p < n ∧ P p ∧ ∀ q, q < n → P q → f p ≤ f q
  | 0, ⟨_, h, _⟩ => by omega
  | n + 1, ⟨p, hp, hP⟩ => by
    by_cases hn : ∃ p, p < n ∧ P p
    · obtain ⟨a, a1, a2, a3⟩ := argmin f P n hn
      by_cases hb : P n ∧ f n < f a
      · refine ⟨n, by omega, hb.1, fun q hq hQ => ?_⟩
        by_cases e : q = n
        · subst e; exact Nat.le_refl _
        · have := a3 q (by omega) hQ; omega
      · refine ⟨a, by omega, a2, fun q hq hQ => ?_⟩
        by_cases e : q = n
        · subst e
          have : ¬ f q < f a := fun h => hb ⟨hQ, h⟩
          omega
        · exact a3 q (by omega) hQ
    · have e : p = n := by
        by_cases e : p = n
        · exact e
        · exact absurd ⟨p, by omega, hP⟩ hn
      subst e
      refine ⟨p, by omega, hP, fun q hq hQ => ?_⟩
      by_cases e : q = p
      · subst e; exact Nat.le_refl _
      · exact absurd ⟨q, by omega, hQ⟩ hn
/-- Below a greater cut some event may be taken that it has. -/
theorem add_below {ps : List Pr} (hv : validF ps = true) {c d : List Int} (hc : isF ps c = true) (hd : isF ps d = true) (_hle : ∀ q : Nat, q < ps.length → cAt c q ≤ cAt d q) (hne : ∃ q : Nat, q < ps.length ∧ cAt c q < cAt d q) :
    ∃ q : Nat, q < ps.length ∧ cAt c q < cAt d q ∧ rdyF ps c q = true := by
  obtain ⟨hl, hr, hcl⟩ := isF_iff.1 hc
  obtain ⟨dl, dr, dcl⟩ := isF_iff.1 hd
  have hm := (valid_parts hv).2.2
  have hrr := (inRange_iff hl).1 hr
  have drr := (inRange_iff dl).1 dr
  obtain ⟨p, hp, hp0, hmin⟩ := argmin (fun p => anc ps ((p : Int), cAt c p + 1)) (fun p => cAt c p < cAt d p) ps.length hne
  have h1 := hrr p hp
  have h2 := drr p hp
  have hi : (cAt c p).toNat < ps[p].evs.length := by omega
  have hci : cAt c p = ((cAt c p).toNat : Nat) := by omega
  refine ⟨p, hp, hp0, ?_⟩
  unfold rdyF
  rw [decide_eq_true_eq]
  refine ⟨by rw [nev_get hp]; omega, (stp_iff hv hc hp hi hci).2 ?_⟩
  unfold needE
  split
  · rename_i hk
    obtain ⟨s, hs, j, hj, e, _, _⟩ := sndr_some (recv_sndr hm hp hi hk)
    have hn := nx_send hm hp hi hk
    have hcd := closed_iff.1 dcl p hp _ hi hk (by omega)
    rw [e] at hn hcd ⊢
    simp only at hcd ⊢
    by_cases hle2 : (j : Int) + 1 ≤ cAt c s
    · exact hle2
    · exfalso
      have h3 := hmin s hs (by omega)
      have h4 := anc_lt hv ⟨s, hs, j, hj, rfl⟩ (.single hn)
      have h5 := hrr s hs
      have h6 := anc_line hv hs (i := (cAt c s).toNat) (j := j) (by omega) hj
      have h7 : (((cAt c s).toNat : Nat) : Int) = cAt c s := by omega
      have h8 : (((cAt c p).toNat : Nat) : Int) = cAt c p := by omega
      rw [h7] at h6
      rw [h8] at h4
      omega
  · have := (hrr 0 (by omega)).1
    simpa using this
theorem rdy_is {ps : List Pr} {c : List Int} {p : Nat} (h : rdyF ps c p = true) : isF ps (stpC c p) = true := (of_decide_eq_true h).2
theorem find_congr {α : Type} {f g : α → Bool} : ∀ {l : List α}, (∀ x ∈ l, f x = g x) → l.find? f = l.find? g
  | [], _ => rfl
  | x :: l, h => by
    rw [List.find?_cons, List.find?_cons, h x (by simp), find_congr fun y hy => h y (List.mem_cons_of_mem _ hy)]
/-- The least process that may go on to a permitted cut. -/
def firstP (ps : List Pr) (perm : List Int → Bool) (c : List Int) : Option Nat := (List.range c.length).find? fun p => rdyF ps c p && perm (stpC c p)
theorem firstP_congr {ps : List Pr} {f g : List Int → Bool} {c : List Int} (h : ∀ p, p < c.length → rdyF ps c p = true → f (stpC c p) = g (stpC c p)) : firstP ps f c = firstP ps g c := by
  refine find_congr fun p hp => ?_
  cases hr : rdyF ps c p with
  | false => rfl
  | true => rw [h p (List.mem_range.1 hp) hr]
theorem firstP_some {ps : List Pr} {f : List Int → Bool} {c : List Int} {p : Nat} (h : firstP ps f c = some p) : p < c.length ∧ rdyF ps c p = true ∧ f (stpC c p) = true := by
  have h1 := List.find?_some h
  have h2 := List.mem_of_find?_eq_some h
  rw [Bool.and_eq_true] at h1
  exact ⟨List.mem_range.1 h2, h1.1, h1.2⟩
theorem firstP_none {ps : List Pr} {f : List Int → Bool} {c : List Int} (h : firstP ps f c = none) {p : Nat} (hp : p < c.length) (hr : rdyF ps c p = true) : f (stpC c p) = false := by
  have := List.find?_eq_none.1 h p (List.mem_range.2 hp)
  rw [hr, Bool.true_and] at this
  simpa using this
/-- The next n cuts of the least walk through permitted cuts. -/
def wlkR (ps : List Pr) (perm : List Int → Bool) : Nat → List Int → Option (List (List Int))
  | 0, _ => some []
  | n + 1, c => match firstP ps perm c with
    | none => none
    | some p => (wlkR ps perm n (stpC c p)).map (stpC c p :: ·)
theorem wlkR_succ (ps : List Pr) (perm : List Int → Bool) (n : Nat) (c : List Int) : wlkR ps perm (n + 1) c = match firstP ps perm c with
    | none => none
    | some p => (wlkR ps perm n (stpC c p)).map (stpC c p :: ·) := rfl
theorem leq_stp {ps : List Pr} {c d : List Int} (hc : c.length = ps.length) (h : ∀ q : Nat, q < ps.length → cAt c q ≤ cAt d q) (hd : d.length = ps.length) {p : Nat} (hp : cAt c p < cAt d p) : ∀ q : Nat, q < ps.length → cAt (stpC c p) q ≤ cAt d q := fun q hq => by
  rw [cAt_stp (by omega)]
  split
  · rename_i e; subst e; omega
  · exact h q hq
theorem leq_at {a b : List Int} {n : Nat} (ha : a.length = n) (hb : b.length = n) : leqF a b = true ↔ ∀ q : Nat, q < n → cAt a q ≤ cAt b q := by
  rw [leq_iff_at, ha, hb]
  exact ⟨fun h => h.2, fun h => ⟨rfl, h⟩⟩
theorem stp_len (c : List Int) (p : Nat) : (stpC c p).length = c.length := by unfold stpC; rw [List.length_set]
theorem leq_full {ps : List Pr} {c : List Int} (h : isF ps c = true) : leqF c (fullC ps) = true := by
  obtain ⟨hl, hr, _⟩ := isF_iff.1 h
  refine (leq_at hl (by unfold fullC; rw [List.length_map])).2 fun q hq => ?_
  rw [fullC_at hq]
  exact ((inRange_iff hl).1 hr q hq).2
theorem full_of_sum {ps : List Pr} {c : List Int} (h : isF ps c = true) : c = fullC ps ↔ c.sum = off ps ps.length := by
  have h1 := leq_sum (leq_full h)
  rw [fullC_sum] at h1
  exact ⟨fun e => by rw [e, fullC_sum], h1.2⟩
theorem wlk_up {ps : List Pr} {to : List Int} {perm : List Int → Bool} (ht : isF ps to = true) (hp : ∀ d, isF ps d = true → leqF to d = true → perm d = true) : ∀ (n : Nat) (c : List Int), isF ps c = true → leqF to c = true → wlkR ps perm n c = wlkR ps (fun d => leqF d (fullC ps)) n c
  | 0, _, _, _ => rfl
  | n + 1, c, hc, hle => by
    have hl := (isF_iff.1 hc).1
    have tl := (isF_iff.1 ht).1
    have hup : ∀ p, p < c.length → rdyF ps c p = true → leqF to (stpC c p) = true := fun p hp hr => by
      refine (leq_at tl (by rw [stp_len]; exact hl)).2 fun q hq => ?_
      have := (leq_at tl hl).1 hle q hq
      rw [cAt_stp (by omega)]
      split <;> omega
    have e : firstP ps perm c = firstP ps (fun d => leqF d (fullC ps)) c := firstP_congr fun p h1 h2 => by
      rw [hp _ (rdy_is h2) (hup p h1 h2), leq_full (rdy_is h2)]
    rw [wlkR_succ, wlkR_succ, e]
    cases hf : firstP ps (fun d => leqF d (fullC ps)) c with
    | none => rfl
    | some p =>
      obtain ⟨a1, a2, _⟩ := firstP_some hf
      simp only
      rw [wlk_up ht hp n _ (rdy_is a2) (hup p a1 a2)]
section
variable {ps : List Pr} (hv : validF ps = true)
include hv
/-- Towards a greater cut one always may go on. -/
theorem first_to {c to : List Int} (hc : isF ps c = true) (ht : isF ps to = true) (hle : leqF c to = true) (hne : c.sum < to.sum) : ∃ p, firstP ps (fun d => leqF d to) c = some p ∧ p < ps.length ∧ isF ps (stpC c p) = true ∧ leqF (stpC c p) to = true := by
  have hl := (isF_iff.1 hc).1
  have tl := (isF_iff.1 ht).1
  have h1 := (leq_at hl tl).1 hle
  have hex : ∃ q : Nat, q < ps.length ∧ cAt c q < cAt to q := by
    apply Classical.byContradiction
    intro hn
    have : c = to := by
      apply List.ext_getElem (by omega)
      intro i g1 g2
      rw [← cAt_nat g1, ← cAt_nat g2]
      have := h1 i (by omega)
      have : ¬ cAt c i < cAt to i := fun h => hn ⟨i, by omega, h⟩
      omega
    rw [this] at hne; omega
  obtain ⟨q, hq, hq1, hq2⟩ := add_below hv hc ht h1 hex
  have hlq : leqF (stpC c q) to = true := (leq_at (by rw [stp_len]; exact hl) tl).2 (leq_stp hl h1 tl hq1)
  cases hf : firstP ps (fun d => leqF d to) c with
  | none =>
    have := firstP_none hf (p := q) (by omega) hq2
    rw [hlq] at this; cases this
  | some p =>
    obtain ⟨a1, a2, a3⟩ := firstP_some hf
    exact ⟨p, rfl, by omega, rdy_is a2, a3⟩
theorem wlk_to {to : List Int} (ht : isF ps to = true) : ∀ (n : Nat) (c : List Int), isF ps c = true → leqF c to = true → c.sum + n = to.sum → ∃ R, wlkR ps (fun d => leqF d to) n c = some R ∧ R.length = n ∧ (∀ d ∈ R, isF ps d = true ∧ leqF d to = true) ∧ (c :: R).getLast? = some to
  | 0, c, hc, hle, hs => by
    have : c = to := (leq_sum hle).2 (by omega)
    subst this
    exact ⟨[], rfl, rfl, fun d hd => (by cases hd), rfl⟩
  | n + 1, c, hc, hle, hs => by
    obtain ⟨p, h1, h2, h3, h4⟩ := first_to hv hc ht hle (by omega)
    have hsum : (stpC c p).sum = c.sum + 1 := sum_stpC (by have := (isF_iff.1 hc).1; omega)
    obtain ⟨R, g1, g2, g3, g4⟩ := wlk_to ht n (stpC c p) h3 h4 (by omega)
    refine ⟨stpC c p :: R, by rw [wlkR_succ, h1]; simp only [g1, Option.map_some], by rw [List.length_cons, g2], fun d hd => ?_, ?_⟩
    · rcases List.mem_cons.1 hd with rfl | hd
      · exact ⟨h3, h4⟩
      · exact g3 d hd
    · rw [List.getLast?_cons_cons]; exact g4
theorem wlk_thr {to : List Int} (ht : isF ps to = true) (m : Nat) : ∀ (n : Nat) (c : List Int), isF ps c = true → leqF c to = true → c.sum + n = to.sum →
    ∀ R, wlkR ps (fun d => leqF d to) n c = some R → wlkR ps (fun d => leqF d to || leqF to d) (n + m) c = (wlkR ps (fun d => leqF d (fullC ps)) m to).map (R ++ ·)
  | 0, c, hc, hle, hs, R, hR => by
    have : c = to := (leq_sum hle).2 (by omega)
    subst this
    have : R = [] := by
      have : some [] = some R := hR
      exact (Option.some.inj this).symm
    subst this
    rw [Nat.zero_add, wlk_up hc (fun d _ hd => by rw [hd, Bool.or_true]) m c hc (leq_refl c)]
    simp
  | n + 1, c, hc, hle, hs, R, hR => by
    have hl := (isF_iff.1 hc).1
    have tl := (isF_iff.1 ht).1
    have e : firstP ps (fun d => leqF d to || leqF to d) c = firstP ps (fun d => leqF d to) c := firstP_congr fun p h1 h2 => by
      cases hq : leqF to (stpC c p) with
      | false => rw [Bool.or_false]
      | true =>
        have h3 := leq_sum hq
        have h4 : (stpC c p).sum = c.sum + 1 := sum_stpC h1
        have h5 := h3.2 (by omega)
        rw [← h5, leq_refl]; rfl
    obtain ⟨p, h1, h2, h3, h4⟩ := first_to hv hc ht hle (by omega)
    have hsum : (stpC c p).sum = c.sum + 1 := sum_stpC (by omega)
    rw [wlkR_succ, h1] at hR
    simp only at hR
    cases hw : wlkR ps (fun d => leqF d to) n (stpC c p) with
    | none => rw [hw] at hR; cases hR
    | some R' =>
      rw [hw] at hR
      have hR' : R = stpC c p :: R' := (Option.some.inj hR).symm
      have ih := wlk_thr ht m n (stpC c p) h3 h4 (by omega) R' hw
      rw [show n + 1 + m = (n + m) + 1 by omega, wlkR_succ, e, h1]
      simp only
      rw [ih, hR']
      cases wlkR ps (fun d => leqF d (fullC ps)) m to <;> rfl
end
end Go.AL
end
section
/- Runs, plainly: single steps, and which lists of cuts are runs. No condition. -/
namespace Go.AL
open Go Go.RowKit
set_option maxRecDepth 4000
/-- The reference's step, as far as to the number k: none, if it has come to its end. -/
def stepG (a b : List Int) : Nat → Option Int
  | 0 => some (-1)
  | k + 1 => match stepG a b k with
    | none => none
    | some p => if cAt a k = cAt b k then some p else if 0 ≤ p ∨ ¬ cAt b k = cAt a k + 1 then none else some k
def stepF (a b : List Int) : Int := if a.length = b.length then (stepG a b a.length).getD (-1) else -1
theorem stepG_some {a b : List Int} : ∀ {k : Nat} {z : Int}, stepG a b k = some z ↔ (z = -1 ∧ ∀ i : Nat, i < k → cAt a i = cAt b i) ∨ ∃ q : Nat, q < k ∧ z = q ∧ cAt b q = cAt a q + 1 ∧ ∀ i : Nat, i < k → i ≠ q → cAt a i = cAt b i
  | 0, z => by
    constructor
    · intro h; exact .inl ⟨(Option.some.inj h).symm, fun i hi => by omega⟩
    · rintro (⟨h, _⟩ | ⟨q, h, _⟩)
      · rw [h]; rfl
      · omega
  | k + 1, z => by
    have e : stepG a b (k + 1) = match stepG a b k with
      | none => none
      | some p => if cAt a k = cAt b k then some p else if 0 ≤ p ∨ ¬ cAt b k = cAt a k + 1 then none else some k := rfl
    rw [e]
    constructor
    · intro h
      cases hs : stepG a b k with
      | none => rw [hs] at h; cases h
      | some p =>
        rw [hs] at h
        simp only at h
        have ih := stepG_some.1 hs
        by_cases h1 : cAt a k = cAt b k
        · rw [if_pos h1] at h
          cases h
          rcases ih with ⟨i1, i2⟩ | ⟨q, i1, i2, i3, i4⟩
          · exact .inl ⟨i1, fun i hi => by
              by_cases e : i = k
              · subst e; exact h1
              · exact i2 i (by omega)⟩
          · exact .inr ⟨q, by omega, i2, i3, fun i hi hn => by
              by_cases e : i = k
              · subst e; exact h1
              · exact i4 i (by omega) hn⟩
        · rw [if_neg h1] at h
          split at h
          · cases h
          · rename_i h2
            cases h
            rcases ih with ⟨i1, i2⟩ | ⟨q, i1, i2, i3, i4⟩
            · refine .inr ⟨k, by omega, rfl, ?_, fun i hi hn => i2 i (by omega)⟩
              apply Classical.byContradiction; intro h3; exact h2 (.inr h3)
            · exact absurd (.inl (by omega)) h2
    · rintro (⟨i1, i2⟩ | ⟨q, i1, i2, i3, i4⟩)
      · rw [stepG_some.2 (.inl ⟨i1, fun i hi => i2 i (by omega)⟩)]
        simp only
        rw [if_pos (i2 k (by omega))]
      · by_cases e : q = k
        · subst e
          rw [stepG_some.2 (.inl ⟨rfl, fun i hi => i4 i (by omega) (by omega)⟩)]
          simp only
          rw [if_neg (by omega), if_neg (by omega), i2]
        · rw [stepG_some.2 (.inr ⟨q, by omega, i2, i3, fun i hi hn => i4 i (by omega) hn⟩)]
          simp only
          rw [if_pos (i4 k (by omega) (by omega))]
theorem stepF_iff {a b : List Int} {q : Nat} : stepF a b = q ↔ q < a.length ∧ b = stpC a q := by
  unfold stepF
  constructor
  · intro h
    split at h
    · rename_i hl
      cases hs : stepG a b a.length with
      | none => rw [hs] at h; simp at h
      | some z =>
        rw [hs] at h
        simp only [Option.getD_some] at h
        subst h
        rcases stepG_some.1 hs with ⟨i1, _⟩ | ⟨p, i1, i2, i3, i4⟩
        · omega
        · have : p = q := by omega
          subst this
          refine ⟨i1, ?_⟩
          apply List.ext_getElem (by rw [stp_len]; omega)
          intro i g1 g2
          rw [← cAt_nat g1, ← cAt_nat g2, cAt_stp (by omega)]
          split
          · rename_i e; subst e; exact i3
          · rename_i e; exact (i4 i (by omega) fun h => e h.symm).symm
    · omega
  · rintro ⟨hq, rfl⟩
    rw [if_pos (stp_len a q).symm, stepG_some.2 (.inr ⟨q, hq, rfl, ?_, ?_⟩)]
    · rfl
    · rw [cAt_stp hq, if_pos rfl]
    · intro i hi hn
      rw [cAt_stp hi, if_neg (fun e => hn e.symm)]
theorem stepF_range (a b : List Int) : stepF a b = -1 ∨ ∃ q : Nat, stepF a b = q := by
  unfold stepF
  split
  · cases hs : stepG a b a.length with
    | none => exact .inl rfl
    | some z =>
      rcases stepG_some.1 hs with ⟨i1, _⟩ | ⟨p, _, i2, _⟩
      · exact .inl i1
      · exact .inr ⟨p, i2⟩
  · exact .inl rfl
/-- The step that the program finds. -/
def stpP (ps : List Pr) (a b : List Int) : Option Nat := (List.range ps.length).find? fun p => rdyF ps a p && decide (b = stpC a p)
theorem stpC_inj {a : List Int} {p q : Nat} (hp : p < a.length) (_hq : q < a.length) (h : stpC a p = stpC a q) : p = q := by
  have h1 : cAt (stpC a p) p = cAt (stpC a q) p := by rw [h]
  rw [cAt_stp hp, cAt_stp hp, if_pos rfl] at h1
  split at h1
  · rename_i e; exact e.symm
  · omega
theorem stpP_some {ps : List Pr} {a b : List Int} (ha : a.length = ps.length) {p : Nat} : stpP ps a b = some p ↔ p < ps.length ∧ rdyF ps a p = true ∧ b = stpC a p := by
  constructor
  · intro h
    have h1 := List.find?_some h
    have h2 := List.mem_of_find?_eq_some h
    rw [Bool.and_eq_true, decide_eq_true_eq] at h1
    exact ⟨List.mem_range.1 h2, h1.1, h1.2⟩
  · rintro ⟨h1, h2, h3⟩
    cases hf : stpP ps a b with
    | none =>
      have := List.find?_eq_none.1 hf p (List.mem_range.2 h1)
      rw [h2, decide_eq_true h3] at this
      simp at this
    | some q =>
      have g1 := List.find?_some hf
      have g2 := List.mem_range.1 (List.mem_of_find?_eq_some hf)
      rw [Bool.and_eq_true, decide_eq_true_eq] at g1
      rw [stpC_inj (a := a) (by omega) (by omega) (g1.2.symm.trans h3)]
theorem stpP_step {ps : List Pr} {a b : List Int} (ha : isF ps a = true) : stpP ps a b = if isF ps b = true ∧ 0 ≤ stepF a b then some (stepF a b).toNat else none := by
  have hl := (isF_iff.1 ha).1
  split
  · rename_i h
    rcases stepF_range a b with e | ⟨q, e⟩
    · rw [e] at h; exact absurd h.2 (by decide)
    · rw [e]
      obtain ⟨h1, h2⟩ := stepF_iff.1 e
      refine (stpP_some hl).2 ⟨by omega, ?_, h2⟩
      have e2 : ((q : Int)).toNat = q := by omega
      rw [e2]
      unfold rdyF
      rw [decide_eq_true_eq, ← h2]
      refine ⟨?_, h.1⟩
      obtain ⟨bl, br, _⟩ := isF_iff.1 h.1
      have := (inRange_iff bl).1 br q (by omega)
      have e3 : cAt b q = cAt a q + 1 := by rw [h2, cAt_stp h1, if_pos rfl]
      rw [nev_get (by omega)]; omega
  · rename_i h
    cases hf : stpP ps a b with
    | none => rfl
    | some p =>
      obtain ⟨g1, g2, g3⟩ := (stpP_some hl).1 hf
      exact absurd ⟨by rw [g3]; exact rdy_is g2, by rw [stepF_iff.2 ⟨by omega, g3⟩]; omega⟩ h
/-- The processes of the steps from a on. -/
def stpsG (ps : List Pr) : List Int → List (List Int) → Option (List Nat)
  | _, [] => some []
  | a, b :: r => match stpP ps a b with
    | none => none
    | some p => (stpsG ps b r).map (p :: ·)
def zeroC (ps : List Pr) : List Int := List.replicate ps.length 0
/-- The steps of a list of cuts, if it is a run. -/
def stpsF (ps : List Pr) : List (List Int) → Option (List Nat)
  | [] => none
  | a :: r => if a = zeroC ps ∧ (a :: r).getLast? = some (fullC ps) then stpsG ps a r else none
/-- Whether the cuts behind a follow by single steps. -/
def chnF (ps : List Pr) : List Int → List (List Int) → Bool
  | _, [] => true
  | a, b :: r => (isF ps b && decide (0 ≤ stepF a b)) && chnF ps b r
def isRunF (ps : List Pr) : List (List Int) → Bool
  | [] => false
  | a :: r => decide (a = zeroC ps ∧ (a :: r).getLast? = some (fullC ps)) && chnF ps a r
theorem stpsG_chn {ps : List Pr} : ∀ {r : List (List Int)} {a : List Int}, isF ps a = true → (stpsG ps a r).isSome = chnF ps a r
  | [], _, _ => rfl
  | b :: r, a, ha => by
    have e : stpsG ps a (b :: r) = match stpP ps a b with
      | none => none
      | some p => (stpsG ps b r).map (p :: ·) := rfl
    have e2 : chnF ps a (b :: r) = ((isF ps b && decide (0 ≤ stepF a b)) && chnF ps b r) := rfl
    rw [e, e2, stpP_step ha]
    by_cases h : isF ps b = true ∧ 0 ≤ stepF a b
    · rw [if_pos h]
      simp only
      rw [Option.isSome_map, stpsG_chn h.1, h.1, decide_eq_true h.2]
      rfl
    · rw [if_neg h]
      cases hb : isF ps b with
      | false => rfl
      | true =>
        have : ¬ 0 ≤ stepF a b := fun h2 => h ⟨hb, h2⟩
        rw [decide_eq_false this]; rfl
theorem zeroC_is (ps : List Pr) : isF ps (zeroC ps) = true := isF_zero
theorem stpsF_run {ps : List Pr} {r : List (List Int)} : (stpsF ps r).isSome = isRunF ps r := by
  cases r with
  | nil => rfl
  | cons a r =>
    show (if a = zeroC ps ∧ (a :: r).getLast? = some (fullC ps) then stpsG ps a r else none).isSome = (decide (a = zeroC ps ∧ (a :: r).getLast? = some (fullC ps)) && chnF ps a r)
    by_cases h : a = zeroC ps ∧ (a :: r).getLast? = some (fullC ps)
    · rw [if_pos h, decide_eq_true h, Bool.true_and]
      exact stpsG_chn (by rw [h.1]; exact zeroC_is ps)
    · rw [if_neg h, decide_eq_false h]; rfl
/-- The events of steps: by the program, and by the reference. -/
def evtG : List Int → List (List Int) → List Eid
  | _, [] => []
  | a, b :: r => (stepF a b, cAt b (stepF a b)) :: evtG b r
def evtP : List (List Int) → List Nat → List Eid
  | a :: r, p :: l => ((p : Int), cAt a p + 1) :: evtP r l
  | _, _ => []
theorem evt_eq {ps : List Pr} : ∀ {r : List (List Int)} {a : List Int} {l : List Nat}, isF ps a = true → stpsG ps a r = some l → evtP (a :: r) l = evtG a r ∧ l.length = r.length
  | [], a, l, ha, h => by
    have : l = [] := (Option.some.inj h).symm
    subst this; exact ⟨rfl, rfl⟩
  | b :: r, a, l, ha, h => by
    have e : stpsG ps a (b :: r) = match stpP ps a b with
      | none => none
      | some p => (stpsG ps b r).map (p :: ·) := rfl
    rw [e] at h
    cases hp : stpP ps a b with
    | none => rw [hp] at h; cases h
    | some p =>
      rw [hp] at h
      simp only at h
      cases hs : stpsG ps b r with
      | none => rw [hs] at h; cases h
      | some l' =>
        rw [hs] at h
        have hl : l = p :: l' := (Option.some.inj h).symm
        subst hl
        obtain ⟨g1, g2, g3⟩ := (stpP_some (isF_iff.1 ha).1).1 hp
        have hal := (isF_iff.1 ha).1
        have hb : isF ps b = true := by rw [g3]; exact rdy_is g2
        obtain ⟨i1, i2⟩ := evt_eq hb hs
        have e1 : stepF a b = p := stepF_iff.2 ⟨by omega, g3⟩
        refine ⟨?_, by rw [List.length_cons, List.length_cons, i2]⟩
        show ((p : Int), cAt a p + 1) :: evtP (b :: r) l' = (stepF a b, cAt b (stepF a b)) :: evtG b r
        rw [i1, e1]
        congr 2
        rw [g3, cAt_stp (by omega), if_pos rfl]
/-- The cuts behind c that come by events. -/
def ofR (ps : List Pr) : List Int → List Eid → Option (List (List Int))
  | _, [] => some []
  | c, x :: l => if (0 ≤ x.1 ∧ x.1 < ps.length) ∧ rdyF ps c x.1.toNat = true ∧ x.2 = cAt c x.1 + 1 then (ofR ps (stpC c x.1.toNat) l).map (stpC c x.1.toNat :: ·) else none
def ofF (ps : List Pr) (l : List Eid) : Option (List (List Int)) := match ofR ps (zeroC ps) l with
  | none => none
  | some R => if (zeroC ps :: R).getLast? = some (fullC ps) then some (zeroC ps :: R) else none
end Go.AL
end
section
/- Runs, plainly: how many there are, and from which cuts the end is reached. No condition. -/
namespace Go.AL
open Go Go.RowKit
set_option maxRecDepth 4000
/-- The processes below k that may go on. -/
def enF (ps : List Pr) (c : List Int) (k : Nat) : List Nat := (List.range k).filter (rdyF ps c)
theorem enF_succ (ps : List Pr) (c : List Int) (k : Nat) : enF ps c (k + 1) = enF ps c k ++ if rdyF ps c k = true then [k] else [] := by
  unfold enF
  rw [List.range_succ, List.filter_append, List.filter_cons]
  split <;> rfl
theorem mem_enF {ps : List Pr} {c : List Int} {k p : Nat} : p ∈ enF ps c k ↔ p < k ∧ rdyF ps c p = true := by unfold enF; rw [List.mem_filter, List.mem_range]
/-- In how many ways one gets from c to the end, in n steps. -/
def wayT (ps : List Pr) : Nat → List Int → Nat
  | 0, _ => 1
  | n + 1, c => ((enF ps c c.length).map fun p => wayT ps n (stpC c p)).sum
def wayV (ps : List Pr) (c : List Int) : Nat := wayT ps (off ps ps.length - c.sum.toNat) c
theorem en_sum {ps : List Pr} {c : List Int} (hc : isF ps c = true) {k p : Nat} (hk : k ≤ c.length) (hp : p ∈ enF ps c k) : isF ps (stpC c p) = true ∧ (stpC c p).sum = c.sum + 1 ∧ c.sum < off ps ps.length ∧ 0 ≤ c.sum := by
  obtain ⟨h1, h2⟩ := mem_enF.1 hp
  have h3 := rdy_is h2
  have h4 : (stpC c p).sum = c.sum + 1 := sum_stpC (by omega)
  have h5 := sum_le_off h3
  have h6 := sum_nonneg c (isF_nonneg hc)
  exact ⟨h3, h4, by omega, h6⟩
theorem map_congr' {α β : Type} {f g : α → β} {l : List α} (h : ∀ x ∈ l, f x = g x) : l.map f = l.map g := List.map_congr_left h
theorem wayV_full {ps : List Pr} {c : List Int} (h : c.sum = off ps ps.length) : wayV ps c = 1 := by
  unfold wayV
  rw [h, show off ps ps.length - ((off ps ps.length : Nat) : Int).toNat = 0 by omega]
  rfl
theorem wayV_stp {ps : List Pr} {c : List Int} (hc : isF ps c = true) (h : c.sum < off ps ps.length) : wayV ps c = ((enF ps c c.length).map fun p => wayV ps (stpC c p)).sum := by
  have h6 := sum_nonneg c (isF_nonneg hc)
  have e : off ps ps.length - c.sum.toNat = (off ps ps.length - (c.sum.toNat + 1)) + 1 := by omega
  unfold wayV
  rw [e]
  show ((enF ps c c.length).map fun p => wayT ps _ (stpC c p)).sum = _
  congr 1
  refine map_congr' fun p hp => ?_
  obtain ⟨_, h4, _, _⟩ := en_sum hc (Nat.le_refl _) hp
  rw [h4, show (c.sum + 1).toNat = c.sum.toNat + 1 by omega]
/-! ### The reference counts from the beginning -/
def addA (A : Nat → Nat) (j x : Nat) : Nat → Nat := fun k => if k = j then A k + x else A k
def idxN (l : List (List Int)) (c : List Int) : Nat := (idxF l c).toNat
def prcT (_ps : List Pr) (l : List (List Int)) (i : Nat) (A : Nat → Nat) (E : List Nat) : Nat → Nat := E.foldl (fun B p => addA B (idxN l (stpC (l.getD i []) p)) (B i)) A
def fwdA (ps : List Pr) (l : List (List Int)) : Nat → Nat → Nat
  | 0 => fun k => if k = 0 then 1 else 0
  | i + 1 => prcT ps l i (fwdA ps l i) (enF ps (l.getD i []) (l.getD i []).length)
def pot (ps : List Pr) (l : List (List Int)) (A : Nat → Nat) (i m : Nat) : Nat := ((List.range' i m).map fun k => A k * wayV ps (l.getD k [])).sum
section
variable {ps : List Pr} (hv : validF ps = true) {l : List (List Int)} (hl : l = cutsF ps)
include hv hl
theorem idx_step {i : Nat} (hi : i < l.length) {p : Nat} (hp : p ∈ enF ps l[i] l[i].length) : i < idxN l (stpC l[i] p) ∧ ∃ h : idxN l (stpC l[i] p) < l.length, l[idxN l (stpC l[i] p)] = stpC l[i] p := by
  have ho : l.Pairwise ordL := by rw [hl]; exact cuts_ord hv
  have hm : ∀ c, c ∈ l ↔ isF ps c = true := fun c => by rw [hl]; exact mem_cutsF hv
  obtain ⟨h1, h2, _, _⟩ := en_sum ((hm _).1 (List.getElem_mem hi)) (Nat.le_refl _) hp
  obtain ⟨j, hj, e⟩ := List.getElem_of_mem ((hm _).2 h1)
  have hx := idx_get ho hj
  rw [e] at hx
  have hj2 : idxN l (stpC l[i] p) = j := by unfold idxN; rw [hx]; rfl
  rw [hj2]
  refine ⟨?_, hj, e⟩
  rcases Nat.lt_or_ge i j with h | h
  · exact h
  · exfalso
    rcases Nat.lt_or_ge j i with h3 | h3
    · rcases ord_get ho hj hi h3 with h4 | ⟨h4, _⟩
      · rw [e] at h4; omega
      · rw [e] at h4; omega
    · have : i = j := by omega
      subst this
      have := congrArg List.sum e
      omega
theorem lst_len0 : 0 < l.length := by
  have : zeroC ps ∈ l := by rw [hl]; exact (mem_cutsF hv).2 (zeroC_is ps)
  exact List.length_pos_of_mem this
theorem lst_first : l.getD 0 [] = zeroC ps := by
  have ho : l.Pairwise ordL := by rw [hl]; exact cuts_ord hv
  have hm : ∀ c, c ∈ l ↔ isF ps c = true := fun c => by rw [hl]; exact mem_cutsF hv
  have h0 := lst_len0 hv hl
  rw [List.getD_eq_getElem?_getD, List.getElem?_eq_getElem h0]
  obtain ⟨j, hj, e⟩ := List.getElem_of_mem ((hm _).2 (zeroC_is ps))
  show l[0] = zeroC ps
  rcases Nat.eq_zero_or_pos j with h | h
  · subst h; exact e
  · exfalso
    have hs := sum_nonneg l[0] (isF_nonneg ((hm _).1 (List.getElem_mem h0)))
    have hz : (zeroC ps).sum = 0 := by unfold zeroC; simp
    have hle : leqF (zeroC ps) l[0] = true := by
      have hl0 := (isF_iff.1 ((hm _).1 (List.getElem_mem h0))).1
      refine (leq_at (by unfold zeroC; simp) hl0).2 fun q hq => ?_
      have : cAt (zeroC ps) q = 0 := by unfold zeroC; rw [cAt_nat (by simp; exact hq)]; simp
      rw [this, cAt_nat (by omega)]
      exact isF_nonneg ((hm _).1 (List.getElem_mem h0)) _ (List.getElem_mem _)
    have := idx_leq ho hj h0 (by rw [e]; exact hle)
    omega
theorem lst_last : l.getD (l.length - 1) [] = fullC ps := by
  have ho : l.Pairwise ordL := by rw [hl]; exact cuts_ord hv
  have hm : ∀ c, c ∈ l ↔ isF ps c = true := fun c => by rw [hl]; exact mem_cutsF hv
  have h0 := lst_len0 hv hl
  have h1 : l.length - 1 < l.length := by omega
  rw [List.getD_eq_getElem?_getD, List.getElem?_eq_getElem h1]
  obtain ⟨j, hj, e⟩ := List.getElem_of_mem ((hm _).2 (fullC_is hv))
  show l[l.length - 1] = fullC ps
  have := idx_leq ho h1 hj (by rw [e]; exact leq_full ((hm _).1 (List.getElem_mem h1)))
  have hj2 : j = l.length - 1 := by omega
  subst hj2; exact e
end
/-! ### From which cuts the end is reached -/
def opnT (ps : List Pr) (bad : List Int → Bool) : Nat → List Int → Bool
  | 0, c => !bad c
  | n + 1, c => !bad c && (enF ps c c.length).any fun p => opnT ps bad n (stpC c p)
def opnV (ps : List Pr) (bad : List Int → Bool) (c : List Int) : Bool := opnT ps bad (off ps ps.length - c.sum.toNat) c
theorem opnV_full {ps : List Pr} {bad : List Int → Bool} {c : List Int} (h : c.sum = off ps ps.length) : opnV ps bad c = !bad c := by
  unfold opnV
  rw [h, show off ps ps.length - ((off ps ps.length : Nat) : Int).toNat = 0 by omega]
  rfl
theorem any_congr' {α : Type} {f g : α → Bool} : ∀ {l : List α}, (∀ x ∈ l, f x = g x) → l.any f = l.any g
  | [], _ => rfl
  | x :: l, h => by rw [List.any_cons, List.any_cons, h x (by simp), any_congr' fun y hy => h y (List.mem_cons_of_mem _ hy)]
theorem opnV_stp {ps : List Pr} {bad : List Int → Bool} {c : List Int} (hc : isF ps c = true) (h : c.sum < off ps ps.length) : opnV ps bad c = (!bad c && (enF ps c c.length).any fun p => opnV ps bad (stpC c p)) := by
  have h6 := sum_nonneg c (isF_nonneg hc)
  have e : off ps ps.length - c.sum.toNat = (off ps ps.length - (c.sum.toNat + 1)) + 1 := by omega
  unfold opnV
  rw [e]
  show (!bad c && (enF ps c c.length).any fun p => opnT ps bad _ (stpC c p)) = _
  congr 1
  refine any_congr' fun p hp => ?_
  obtain ⟨_, h4, _, _⟩ := en_sum hc (Nat.le_refl _) hp
  rw [h4, show (c.sum + 1).toNat = c.sum.toNat + 1 by omega]
end Go.AL
end
section
/- The package run: the space of a trace, and single events. No condition. -/
namespace Go.AL
open Go Go.RowKit
set_option maxRecDepth 4000
def aRs (ps : List Pr) : AV := .rp 2 [.agg [.sl 3 (ps.map aPr), .sl 1 (aNeeds ps ps)]] 0 0
theorem run_sender1 (f e : Ev) : PC Go.Proofs.Tryz.prog 117 [aEv f, .rp 5 [aEv e] 0 0] (ab (decide (f.kind = 2) && decide (f.msg = e.msg))) := by
  refine PC.enter 14 [.tmp 3] [2] Go.Proofs.Tryz.func117 rfl rfl rfl rfl rfl (by simp) (AWp.of ?_); simp only [go_sem]
  repeat (first | ((with_reducible refine AWp.ofC ?_ ?_); (focus exact rfl); simp only [go_sem]) | ((with_reducible refine an ?_ ?_); focus exact Au))
  refine ret_eq ?_; simp only [go_sem]
theorem run_sender (ps : List Pr) (hs : Sm ps) (hv : validF ps = true) (p : Nat) (hp : p < ps.length) (i : Nat) (hi : i < ps[p].evs.length) (hk : ps[p].evs[i].kind = 3) : PC Go.Proofs.Tryz.prog 86 [aTr ps, aEv ps[p].evs[i]] (.tup [aEid (sndr ps ps[p].evs[i].msg), ab true]) := by
  have hm := (valid_parts hv).2.2
  obtain ⟨hq, j, hj, hsd, h1, h2⟩ := recv_peer hm hp hi hk
  have hpr : 0 ≤ ps[p].evs[i].peer := by
    have := (evF_parts hp hi).1 (evF_of_valid hv hp hi)
    exact (formed_msg this.1 (.inr hk)).2.2.1
  have hix : ps[ps[p].evs[i].peer.toNat].evs.findIdx? (fun f => decide (f.kind = 2) && decide (f.msg = ps[p].evs[i].msg)) = some j := by
    rw [List.findIdx?_eq_some_iff_getElem]
    refine ⟨hj, by rw [h1, h2]; simp, fun k hkj h => ?_⟩
    simp only [Bool.and_eq_true, decide_eq_true_eq] at h
    have g1 := valid_unique hv hq hj h1
    have g2 := valid_unique hv hq (i := k) (by omega) h.1
    rw [h2] at g1
    rw [h.2, g1] at g2
    have := (Prod.mk.inj g2).2
    omega
  have hel := hs.evs _ (List.getElem_mem hq)
  have hir := events_indexFunc ps[ps[p].evs[i].peer.toNat].evs hel (.clo 117 [.rp 5 [aEv ps[p].evs[i]] 0 0]) rfl _ fun f _ => (run_sender1 f ps[p].evs[i]).clo
  rw [hix] at hir
  rw [hsd]
  have hgp := getD_map (f := aPr) hq
  have e1 : ((ps[p].evs[i].peer.toNat : Nat) : Int) = ps[p].evs[i].peer := by omega
  rw [e1]
  generalize ps[ps[p].evs[i].peer.toNat] = y at *
  generalize ps[p].evs[i] = e at *
  refine PC.enter 23 [.cell 4 66, .tmp 5] [2, 3] Go.Proofs.Tryz.func86 rfl rfl rfl rfl rfl (by simp) (AWp.of ?_); simp only [go_sem]
  intro b4
  repeat (first | ((with_reducible refine AWp.ofC ?_ ?_); (focus exact rfl); simp only [go_sem, hgp]) | ((with_reducible refine an ?_ ?_); focus exact Au))
  repeat ((with_reducible refine an ?_ ?_); focus exact As)
  refine (hir).val.use ?_; simp only [go_sem]
  have z0 : (0 : Int) ≤ (j : Int) := by omega
  repeat (first | ((with_reducible refine AWp.ofC ?_ ?_); (focus exact rfl); simp only [go_sem, z0]) | ((with_reducible refine an ?_ ?_); focus exact Au))
  refine ret_eq ?_; simp only [go_sem]
def rsL (ps : List Pr) (b p : Nat) (L : AHeap) : Prop :=
  (p = 0 ∧ L = [(b, .row 120 2 [.agg [.sl 3 (ps.map aPr), anil]] 1)]) ∨
  ∃ c cap, (¬ c = b ∧ ¬ b = c) ∧ L = [(c, .row 60 1 (aNeeds ps (ps.take p)) cap), (b, .row 120 2 [.agg [.sl 3 (ps.map aPr), .ls c 1 0 p cap]] 1)]
theorem run_open (ps : List Pr) (hs : Sm ps) (hv : validF ps = true) : PC Go.Proofs.Tryz.prog 47 [aTr ps] (aRs ps) := by
  obtain ⟨hl1, hl8⟩ := valid_len hv
  refine PC.enter 53 [.tmp 2] [1, 5, 8, 9, 38, 47] Go.Proofs.Tryz.func47 rfl rfl rfl rfl rfl (by simp) (AWp.of ?_); simp only [go_sem]
  repeat (first | ((with_reducible refine AWp.ofC ?_ ?_); (focus exact rfl); simp only [go_sem]) | ((with_reducible refine an ?_ ?_); focus exact Au))
  intro b3
  repeat (first | ((with_reducible refine AWp.ofC ?_ ?_); (focus exact rfl); simp only [go_sem]) | ((with_reducible refine an ?_ ?_); focus exact Au))
  refine AWp.range' ps.length [] [1, 3, 14, 15] (fun p vs L => vs = [] ∧ rsL ps b3 p L) (by omega) rfl rfl rfl ⟨rfl, .inl ⟨rfl, rfl⟩⟩ ?_ ?_
  · rintro p vs L hp - ⟨rfl, hL⟩
    have hgp := getD_map (f := aPr) hp
    simp only [go_sem]
    repeat (first | ((with_reducible refine AWp.ofC ?_ ?_); (focus exact rfl); simp only [go_sem, hgp]) | ((with_reducible refine an ?_ ?_); focus exact Au))
    intro b5 g5
    have hel := hs.evs _ (List.getElem_mem hp)
    repeat ((with_reducible refine an ?_ ?_); focus exact As)
    refine AWp.of ?_; simp only [go_sem]
    refine AWp.cutF [1, 3, 6, 14, 15, 16] (fun vs L1 => ∃ v, AppSt 66 2 ((ps[p].evs.map (needE ps)).map aEid) v L1 ∧
      vs = [.rp 1 [aTr ps] 0 0, .lp b3 2 0 0, v, aPrs ps, ai (ps.length : Nat), ai (p : Nat)]) ?_ ?_
    · repeat (first | ((with_reducible refine AWp.ofC ?_ ?_); (focus exact rfl); simp only [go_sem]) | ((with_reducible refine an ?_ ?_); focus exact Au))
      refine AWp.range' ps[p].evs.length [6] [1, 3, 14, 15, 16, 21, 22] (fun i vs L => ∃ v, vs = [v] ∧ AppSt 66 2 (((ps[p].evs.take i).map (needE ps)).map aEid) v L) (by omega) rfl rfl rfl ⟨anil, rfl, by rw [List.take_zero]; exact .nil⟩ ?_ ?_
      · rintro i vs L hi - ⟨v, rfl, hA⟩
        have hge := getD_map (f := aEv) hi
        have hne : needE ps ps[p].evs[i] = if ps[p].evs[i].kind = 3 then sndr ps ps[p].evs[i].msg else (0, 0) := rfl
        have hsn := fun hk => run_sender ps hs hv p hp i hi hk
        have htk : ((ps[p].evs.take (i + 1)).map (needE ps)).map aEid = ((ps[p].evs.take i).map (needE ps)).map aEid ++ [aEid (needE ps ps[p].evs[i])] := by
          rw [List.take_succ_eq_append_getElem hi, List.map_append, List.map_append]; rfl
        have hyl : (((ps[p].evs.take i).map (needE ps)).map aEid).length = i := by simp; omega
        rw [htk]
        generalize ((ps[p].evs.take i).map (needE ps)).map aEid = ys at *
        generalize needE ps ps[p].evs[i] = ne at *
        generalize ps[p].evs[i] = ev at *
        rcases hA.inv with ⟨e1, rfl, rfl⟩ | ⟨bq, capq, rfl, rfl⟩
        · simp only [go_sem]
          repeat (first | ((with_reducible refine AWp.ofC ?_ ?_); (focus exact rfl); simp only [go_sem, hge]) | ((with_reducible refine an ?_ ?_); focus exact Au))
          intro b8
          repeat (first | ((with_reducible refine AWp.ofC ?_ ?_); (focus exact rfl); simp only [go_sem]) | ((with_reducible refine an ?_ ?_); focus exact Au))
          intro b9
          repeat (first | ((with_reducible refine AWp.ofC ?_ ?_); (focus exact rfl); simp only [go_sem]) | ((with_reducible refine an ?_ ?_); focus exact Au))
          refine ⟨fun h3 => ?_, fun h3 => ?_⟩
          · rw [if_pos h3] at hne
            subst hne
            have hsn := hsn h3
            generalize sndr ps ev.msg = sx at *
            obtain ⟨s1, s2⟩ := sx
            repeat ((with_reducible refine an ?_ ?_); focus exact As)
            refine (hsn).val.use ?_; simp only [go_sem]
            repeat (first | ((with_reducible refine AWp.ofC ?_ ?_); (focus exact rfl); simp only [go_sem]) | ((with_reducible refine an ?_ ?_); focus exact Au))
            intro b' cap' hc'
            exact ⟨_, List.cons_sublist_cons.2 (List.nil_sublist _), _, rfl, by rw [e1]; exact .row b' [_] cap'⟩
          · rw [if_neg h3] at hne
            subst hne
            repeat (first | ((with_reducible refine AWp.ofC ?_ ?_); (focus exact rfl); simp only [go_sem]) | ((with_reducible refine an ?_ ?_); focus exact Au))
            intro b' cap' g' hc'
            exact ⟨_, List.cons_sublist_cons.2 (List.nil_sublist _), _, rfl, by rw [e1]; exact .row b' [_] cap'⟩
        · simp only [go_sem]
          repeat (first | ((with_reducible refine AWp.ofC ?_ ?_); (focus exact rfl); simp only [go_sem, hge]) | ((with_reducible refine an ?_ ?_); focus exact Au))
          intro b8 g8
          repeat (first | ((with_reducible refine AWp.ofC ?_ ?_); (focus exact rfl); simp only [go_sem]) | ((with_reducible refine an ?_ ?_); focus exact Au))
          intro b9 g9
          have n3 : ¬ b9 = bq := by omega
          have n4 : ¬ bq = b9 := by omega
          repeat (first | ((with_reducible refine AWp.ofC ?_ ?_); (focus exact rfl); simp only [go_sem]) | ((with_reducible refine an ?_ ?_); focus exact Au))
          refine ⟨fun h3 => ?_, fun h3 => ?_⟩
          · rw [if_pos h3] at hne
            subst hne
            have hsn := hsn h3
            generalize sndr ps ev.msg = sx at *
            obtain ⟨s1, s2⟩ := sx
            repeat ((with_reducible refine an ?_ ?_); focus exact As)
            refine (hsn).val.use ?_; simp only [go_sem]
            repeat (first | ((with_reducible refine AWp.ofC ?_ ?_); (focus exact rfl); simp only [go_sem]) | ((with_reducible refine an ?_ ?_); focus exact Au))
            intro b' cap' hc'
            exact ⟨_, List.cons_sublist_cons.2 (List.nil_sublist _), _, rfl, AppSt.snoc b' cap' _ rfl⟩
          · rw [if_neg h3] at hne
            subst hne
            repeat (first | ((with_reducible refine AWp.ofC ?_ ?_); (focus exact rfl); simp only [go_sem, n3, n4]) | ((with_reducible refine an ?_ ?_); focus exact Au))
            intro b' cap' g' hc'
            exact ⟨_, List.cons_sublist_cons.2 (List.nil_sublist _), _, rfl, AppSt.snoc b' cap' _ rfl⟩
      · rintro vs L - ⟨v, rfl, hA⟩
        rw [List.take_length] at hA
        simp only [go_sem]
        exact ⟨L, List.Sublist.refl _, v, hA, rfl⟩
    · rintro vs L1 - ⟨v, hA, rfl⟩
      simp only [go_sem]
      refine AWp.viewA (j := 6) hA rfl ?_
      clear g5
      have hs2 : aNeeds ps (ps.take (p + 1)) = aNeeds ps (ps.take p) ++ [.sl 2 ((ps[p].evs.map (needE ps)).map aEid)] := by
        unfold aNeeds; rw [List.take_succ_eq_append_getElem hp, List.map_append]; rfl
      have hy2 : (aNeeds ps (ps.take p)).length = p := by simp [aNeeds]; omega
      unfold rsL
      rw [hs2]
      generalize (ps[p].evs.map (needE ps)).map aEid = ne at *
      rcases hL with ⟨rfl, rfl⟩ | ⟨c2, cap2, ⟨d1, d2⟩, rfl⟩
      · have e2 := List.eq_nil_of_length_eq_zero hy2
        rw [e2]
        simp only [go_sem]
        repeat (first | ((with_reducible refine AWp.ofC ?_ ?_); (focus exact rfl); simp only [go_sem]) | ((with_reducible refine an ?_ ?_); focus exact Au))
        intro c1 k1 h31 hk1
        have d1 : ¬ c1 = b3 := by omega
        have d7 : ¬ b3 = c1 := by omega
        simp only [go_sem, d7]
        exact ⟨_, List.Sublist.refl _, c1, k1, ⟨d1, d7⟩, rfl⟩
      · generalize aNeeds ps (ps.take p) = ys2 at *
        have ht2 : ys2.take p = ys2 := List.take_of_length_le (by omega)
        repeat (first | ((with_reducible refine AWp.ofC ?_ ?_); (focus exact rfl); simp only [go_sem, d1, d2, ht2]) | ((with_reducible refine an ?_ ?_); focus exact Au))
        intro x1 k1 h21 hk1
        have d3 : ¬ x1 = b3 := fun e => h21 e.symm
        simp only [go_sem, h21]
        exact ⟨_, List.Sublist.refl _, x1, k1, ⟨d3, h21⟩, rfl⟩
  · rintro vs L - ⟨rfl, hL⟩
    rcases hL with ⟨h0, rfl⟩ | ⟨c1, cap1, ⟨d1, d2⟩, rfl⟩
    · omega
    rw [List.take_length]
    have hy2 : (aNeeds ps ps).length = ps.length := List.length_map _
    unfold aRs
    generalize aNeeds ps ps = ys2 at *
    simp only [go_sem]
    repeat (first | ((with_reducible refine AWp.ofC ?_ ?_); (focus exact rfl); simp only [go_sem]) | ((with_reducible refine an ?_ ?_); focus exact Au))
    refine ret_view [true, true] ?_; simp only [go_sem]
    refine Vw.lp (t := 120) (cap := 1) (xs := [.agg [.sl 3 (ps.map aPr), .ls c1 1 0 ps.length cap1]]) (by simp only [lk, d2, if_false, if_true]) rfl fun i x y hx hy => ?_
    cases i with
    | zero =>
      cases hx; cases hy
      refine .mkAgg (Vws.cons (.refl _) (Vws.cons ?_ .nil))
      exact Vw.ofLs (t := 60) (cap := cap1) (if_pos rfl) hy2.symm
    | succ i => cases hx
end Go.AL
end
section
/- The package run: zero, full, may, next, indices. No condition. -/
namespace Go.AL
open Go Go.RowKit
set_option maxRecDepth 4000
theorem needs_len (ps : List Pr) : (aNeeds ps ps).length = ps.length := List.length_map _
theorem run_zero (ps : List Pr) (hv : validF ps = true) : PC Go.Proofs.Tryz.prog 52 [aRs ps] (aInts (zeroC ps)) := by
  have hl := needs_len ps
  have hl8 := (valid_len hv).2
  unfold aRs
  refine PC.enter 9 [.tmp 2] [] Go.Proofs.Tryz.func52 rfl rfl rfl rfl rfl (by simp) (AWp.of ?_); simp only [go_sem]
  repeat (first | ((with_reducible refine AWp.ofC ?_ ?_); (focus exact rfl); simp only [go_sem, hl]) | ((with_reducible refine an ?_ ?_); focus exact Au))
  repeat ((with_reducible refine an ?_ ?_); focus exact As)
  intro b8
  repeat (first | ((with_reducible refine AWp.ofC ?_ ?_); (focus exact rfl); simp only [go_sem]) | ((with_reducible refine an ?_ ?_); focus exact Au))
  refine ret_view [true] ?_; simp only [go_sem]
  have e : (zeroC ps).map ai = List.replicate ps.length (ai 0) := by unfold zeroC; rw [List.map_replicate]
  show Vw _ _ (.sl 1 ((zeroC ps).map ai))
  rw [e]
  exact Vw.ofLs (if_pos rfl) (by simp)
theorem run_zeroO (ps : List Pr) (hv : validF ps = true) : MCalls Go.Proofs.Tryz.prog 52 [aRs ps] [] fun r L => ∃ b, r = .ls b 1 0 ps.length ps.length ∧ L = [(b, .row 3 1 ((zeroC ps).map ai) ps.length)] := by
  have hl := needs_len ps
  have hl8 := (valid_len hv).2
  unfold aRs
  refine MCalls.enter' 9 [.tmp 2] [] Go.Proofs.Tryz.func52 rfl rfl rfl rfl rfl (by simp) (AWp.of ?_); simp only [go_sem]
  repeat (first | ((with_reducible refine AWp.ofC ?_ ?_); (focus exact rfl); simp only [go_sem, hl]) | ((with_reducible refine an ?_ ?_); focus exact Au))
  repeat ((with_reducible refine an ?_ ?_); focus exact As)
  intro b8
  repeat (first | ((with_reducible refine AWp.ofC ?_ ?_); (focus exact rfl); simp only [go_sem]) | ((with_reducible refine an ?_ ?_); focus exact Au))
  refine ret_own ?_
  simp only [go_sem]
  have e : (zeroC ps).map ai = List.replicate ps.length (ai 0) := by unfold zeroC; rw [List.map_replicate]
  rw [e]
  exact ⟨b8, rfl, rfl⟩
def fulT (ps : List Pr) (k : Nat) : List Int := (List.range ps.length).map fun p => if p < k then (nev ps p : Int) else 0
theorem fulT_zero (ps : List Pr) : fulT ps 0 = zeroC ps := by
  unfold fulT zeroC
  exact List.eq_replicate_iff.2 ⟨by simp, fun x hx => by
    obtain ⟨p, _, rfl⟩ := List.mem_map.1 hx
    exact if_neg (by omega)⟩
theorem fulT_len (ps : List Pr) (k : Nat) : (fulT ps k).length = ps.length := by simp [fulT]
theorem fulT_succ (ps : List Pr) {k : Nat} (hk : k < ps.length) : fulT ps (k + 1) = (fulT ps k).set k (ps[k].evs.length : Int) := by
  apply List.ext_getElem (by rw [List.length_set, fulT_len, fulT_len])
  intro i h1 h2
  rw [List.getElem_set]
  simp only [fulT, List.getElem_map, List.getElem_range]
  by_cases e : k = i
  · subst e; rw [if_pos (by omega), if_pos rfl, nev_get hk]
  · rw [if_neg e]
    by_cases h : i < k
    · rw [if_pos h, if_pos (by omega)]
    · rw [if_neg h, if_neg (by omega)]
theorem fulT_full (ps : List Pr) : fulT ps ps.length = fullC ps := by
  apply List.ext_getElem (by rw [fulT_len]; simp [fullC])
  intro i h1 h2
  have hi : i < ps.length := by rw [fulT_len] at h1; exact h1
  simp only [fulT, fullC, List.getElem_map, List.getElem_range]
  rw [if_pos hi, nev_get hi]
theorem run_full (ps : List Pr) (hs : Sm ps) (hv : validF ps = true) : PC Go.Proofs.Tryz.prog 49 [aRs ps] (aInts (fullC ps)) := by
  have hl := needs_len ps
  have hl8 := (valid_len hv).2
  have hz := run_zeroO ps hv
  unfold aRs at hz ⊢
  refine PC.enter 25 [.tmp 2] [] Go.Proofs.Tryz.func49 rfl rfl rfl rfl rfl (by simp) (AWp.of ?_); simp only [go_sem]
  repeat (first | ((with_reducible refine AWp.ofC ?_ ?_); (focus exact rfl); simp only [go_sem]) | ((with_reducible refine an ?_ ?_); focus exact Au))
  refine hz.val.mono ?_
  rintro r L ⟨b, rfl, rfl⟩
  simp only [go_sem]
  repeat (first | ((with_reducible refine AWp.ofC ?_ ?_); (focus exact rfl); simp only [go_sem, hl]) | ((with_reducible refine an ?_ ?_); focus exact Au))
  refine AWp.range' ps.length [] [3, 11, 12] (fun k vs L => vs = [] ∧ L = [(b, .row 3 1 ((fulT ps k).map ai) ps.length)]) (by omega) rfl rfl rfl ⟨rfl, by rw [fulT_zero]⟩ ?_ ?_
  · rintro k vs L hk - ⟨rfl, rfl⟩
    have hel := hs.evs _ (List.getElem_mem hk)
    have g3 : (aNeeds ps ps).getD k .any = aEids (ps[k].evs.map (needE ps)) := getD_map (f := fun x : Pr => aEids (x.evs.map (needE ps))) hk
    have g5 : ((ps[k].evs.map (needE ps)).map aEid).length = ps[k].evs.length := by rw [List.length_map, List.length_map]
    have hfl := fulT_len ps k
    simp only [go_sem]
    have g7 := getD_map (f := ai) (l := fulT ps k) (k := k) (by omega)
    repeat (first | ((with_reducible refine AWp.ofC ?_ ?_); (focus exact rfl); simp only [go_sem, g3, g5, hfl, g7]) | ((with_reducible refine an ?_ ?_); focus exact Au))
    exact ⟨_, List.Sublist.refl _, by rw [fulT_succ ps hk, List.map_set]⟩
  · rintro vs L - ⟨rfl, rfl⟩
    rw [fulT_full]
    simp only [go_sem]
    repeat (first | ((with_reducible refine AWp.ofC ?_ ?_); (focus exact rfl); simp only [go_sem]) | ((with_reducible refine an ?_ ?_); focus exact Au))
    refine ret_view [true] ?_; simp only [go_sem]
    exact Vw.ofLs (if_pos rfl) (by simp [fullC])
def mayF (ps : List Pr) (c : List Int) (p : Int) : Bool := decide (0 ≤ p ∧ p < ps.length) && rdyF ps c p.toNat
theorem run_may (ps : List Pr) (hs : Sm ps) (hv : validF ps = true) (c : List Int) (hc : isF ps c = true) (p : Int) : PC Go.Proofs.Tryz.prog 50 [aRs ps, aInts c, ai p] (ab (mayF ps c p)) := by
  obtain ⟨h1, h2, h3⟩ := isF_iff.1 hc
  have hnl := needs_len ps
  have hl1 := (valid_len hv).1
  by_cases hp0 : p < 0
  · have e0 : p.toNat = 0 := by omega
    have g1 := getD_map (f := ai) (l := c) (k := 0) (by omega)
    have g3 : (aNeeds ps ps).getD 0 .any = aEids (ps[0].evs.map (needE ps)) := getD_map (f := fun x : Pr => aEids (x.evs.map (needE ps))) (by omega)
    have hm : mayF ps c p = false := by unfold mayF; rw [decide_eq_false (by omega)]; rfl
    rw [hm]
    unfold aRs
    refine PC.enter 57 [.tmp 6] [7] Go.Proofs.Tryz.func50 rfl rfl rfl rfl rfl (by simp) (AWp.of ?_); simp only [go_sem]
    repeat (first | ((with_reducible refine AWp.ofC ?_ ?_); (focus exact rfl); simp only [go_sem, hp0]) | ((with_reducible refine an ?_ ?_); focus exact Au))
    refine AWp.seq (AWp.seq ?_)
    repeat (first | (with_reducible refine AWp.seq ?_) | (with_reducible refine AWp.block ?_))
    refine AWp.read mixed [0, 1, 2, 3, 4, 5, 6, 7, 8, 9, 10, 11, 12, 13, 14, 15, 16, 17, 18, 19, 20, 21, 22] (by kernel_rfl) ?_; simp only [go_sem, hp0, e0, g1, g3, hnl]
    repeat ((with_reducible refine an ?_ ?_); focus exact As)
    repeat (first | ((with_reducible refine AWp.ofC ?_ ?_); (focus exact rfl); simp only [go_sem]) | ((with_reducible refine an ?_ ?_); focus exact Au))
    refine ret_eq ?_; simp only [go_sem]
  · by_cases hpl : p < ps.length
    · obtain ⟨q, rfl⟩ : ∃ q : Nat, p = q := ⟨p.toNat, by omega⟩
      have hp : q < ps.length := by omega
      have hr := (inRange_iff h1).1 h2 q hp
      obtain ⟨i, hci⟩ : ∃ i : Nat, cAt c q = i := ⟨(cAt c q).toNat, by omega⟩
      have hpc : q < c.length := by omega
      have hcp : c[q] = (i : Int) := by rw [← cAt_nat hpc]; exact hci
      have hel := hs.evs _ (List.getElem_mem hp)
      have g1 : (c.map ai).getD q .any = ai i := by rw [getD_map hpc, hcp]
      have g3 : (aNeeds ps ps).getD q .any = aEids (ps[q].evs.map (needE ps)) := getD_map (f := fun x : Pr => aEids (x.evs.map (needE ps))) hp
      have g5 : ((ps[q].evs.map (needE ps)).map aEid).length = ps[q].evs.length := by rw [List.length_map, List.length_map]
      have z0 : ¬ (q : Int) < 0 := by omega
      have z1 : ¬ (c.length : Int) ≤ (q : Int) := by omega
      have hrd : mayF ps c q = (decide (i < ps[q].evs.length) && isF ps (stpC c q)) := by
        unfold mayF rdyF
        rw [decide_eq_true ⟨by omega, by omega⟩, Bool.true_and]
        have e2 : ((q : Int)).toNat = q := by omega
        rw [e2, hci, nev_get hp, Bool.decide_and, Bool.decide_eq_true]; congr 1; congr 1; exact propext ⟨fun h => by omega, fun h => by omega⟩
      rw [hrd]
      unfold aRs
      refine PC.enter 57 [.tmp 6] [7] Go.Proofs.Tryz.func50 rfl rfl rfl rfl rfl (by simp) (AWp.of ?_); simp only [go_sem]
      repeat (first | ((with_reducible refine AWp.ofC ?_ ?_); (focus exact rfl); simp only [go_sem, z0, z1, g1, g3, hnl]) | ((with_reducible refine an ?_ ?_); focus exact Au))
      refine AWp.seq (AWp.seq ?_)
      repeat (first | (with_reducible refine AWp.seq ?_) | (with_reducible refine AWp.block ?_))
      refine AWp.read mixed [0, 1, 2, 3, 4, 5, 6, 7, 8, 9, 10, 11, 12, 13, 14, 15, 16, 17, 18, 19, 20, 21, 22] (by kernel_rfl) ?_; simp only [go_sem, z0, z1, g1, g3, g5, hnl]
      repeat ((with_reducible refine an ?_ ?_); focus exact As)
      repeat (first | ((with_reducible refine AWp.ofC ?_ ?_); (focus exact rfl); simp only [go_sem]) | ((with_reducible refine an ?_ ?_); focus exact Au))
      refine ⟨fun h => ?_, fun h => ?_⟩
      · have : (decide (i < ps[q].evs.length) && isF ps (stpC c q)) = false := by rw [decide_eq_false (by omega)]; rfl
        rw [this]
        repeat (first | ((with_reducible refine AWp.ofC ?_ ?_); (focus exact rfl); simp only [go_sem]) | ((with_reducible refine an ?_ ?_); focus exact Au))
        refine ret_eq ?_; simp only [go_sem]
      · have hi : i < ps[q].evs.length := by omega
        have hst := stp_iff hv hc hp hi hci
        have hin := need_in hv hp hi
        have g4 : ((ps[q].evs.map (needE ps)).map aEid).getD i .any = aEid (needE ps ps[q].evs[i]) := by rw [List.map_map]; exact getD_map (f := fun e => aEid (needE ps e)) hi
        have e1 : decide (i < ps[q].evs.length) = true := decide_eq_true hi
        have e2 : isF ps (stpC c q) = decide ((needE ps ps[q].evs[i]).2 ≤ cAt c (needE ps ps[q].evs[i]).1) := by
          by_cases hb : isF ps (stpC c q) = true
          · rw [hb]; exact (decide_eq_true (hst.1 hb)).symm
          · rw [Bool.not_eq_true] at hb
            rw [hb]; exact (decide_eq_false fun h => by rw [hst.2 h] at hb; cases hb).symm
        have h0n : 0 ≤ cAt c (needE ps ps[q].evs[i]).1 := by
          have h5 := (inRange_iff h1).1 h2 (needE ps ps[q].evs[i]).1.toNat (by omega)
          rw [Int.toNat_of_nonneg hin.1] at h5
          exact h5.1
        rw [e1, e2, Bool.true_and]
        generalize needE ps ps[q].evs[i] = ne at *
        obtain ⟨n1, n2⟩ := ne
        have g6 := getD_cAt (c := c) hin.1 (by omega)
        dsimp only at hin h0n
        repeat (first | ((with_reducible refine AWp.ofC ?_ ?_); (focus exact rfl); simp only [go_sem]) | ((with_reducible refine an ?_ ?_); focus exact Au))
        refine AWp.seq ?_
        repeat (first | (with_reducible refine AWp.seq ?_) | (with_reducible refine AWp.block ?_))
        refine AWp.mix mixed [0, 1, 2, 3, 4, 5, 6, 7, 8, 9, 10, 11, 12] (.step 13 (.step 14 .done .done) .done) (by kernel_rfl) ?_; simp only [go_sem, g1, g3, g4, g5, hnl]
        repeat ((with_reducible refine an ?_ ?_); focus exact As)
        intro b7
        refine AWp.seq ?_
        repeat (first | (with_reducible refine AWp.seq ?_) | (with_reducible refine AWp.block ?_))
        refine AWp.read mixed [0, 1, 2, 3, 4, 5, 6, 7, 8, 9, 10, 11, 12, 13] (by kernel_rfl) ?_; simp only [go_sem, g6]
        repeat ((with_reducible refine an ?_ ?_); focus exact As)
        have hor : (decide (n2 = 0) || decide (n2 ≤ cAt c n1)) = decide (n2 ≤ cAt c n1) := by
          by_cases hz : n2 = 0
          · rw [hz, decide_eq_true h0n]; rfl
          · rw [decide_eq_false hz, Bool.false_or]
        repeat (first | ((with_reducible refine AWp.ofC ?_ ?_); (focus exact rfl); simp only [go_sem, hor]) | ((with_reducible refine an ?_ ?_); focus exact Au))
        refine ret_eq ?_; simp only [go_sem]
    · have g1 : (c.map ai).getD p.toNat .any = .any := by
        rw [List.getD_eq_getElem?_getD, List.getElem?_eq_none (by rw [List.length_map]; omega)]; rfl
      have g3 : (aNeeds ps ps).getD p.toNat .any = .any := by
        rw [List.getD_eq_getElem?_getD, List.getElem?_eq_none (by rw [hnl]; omega)]; rfl
      have z1 : (c.length : Int) ≤ p := by omega
      have hm : mayF ps c p = false := by unfold mayF; rw [decide_eq_false (by omega)]; rfl
      rw [hm]
      unfold aRs
      refine PC.enter 57 [.tmp 6] [7] Go.Proofs.Tryz.func50 rfl rfl rfl rfl rfl (by simp) (AWp.of ?_); simp only [go_sem]
      repeat (first | ((with_reducible refine AWp.ofC ?_ ?_); (focus exact rfl); simp only [go_sem, hp0]) | ((with_reducible refine an ?_ ?_); focus exact Au))
      refine AWp.seq (AWp.seq ?_)
      repeat (first | (with_reducible refine AWp.seq ?_) | (with_reducible refine AWp.block ?_))
      refine AWp.read mixed [0, 1, 2, 3, 4, 5, 6, 7, 8, 9, 10, 11, 12, 13, 14, 15, 16, 17, 18, 19, 20, 21, 22] (by kernel_rfl) ?_; simp only [go_sem, hp0, z1, g1, g3, hnl]
      repeat ((with_reducible refine an ?_ ?_); focus exact As)
      repeat (first | ((with_reducible refine AWp.ofC ?_ ?_); (focus exact rfl); simp only [go_sem]) | ((with_reducible refine an ?_ ?_); focus exact Au))
      refine ret_eq ?_; simp only [go_sem]
theorem run_next (c : List Int) (hc : c.length ≤ 1000000) (hb : ∀ z ∈ c, 0 ≤ z ∧ z ≤ 1000000) (p : Nat) (hp : p < c.length) : PC Go.Proofs.Tryz.prog 51 [aInts c, ai (p : Nat)] (aInts (stpC c p)) := by
  have hcl := ints_cloneO c hc
  have hcp := cAt_nat hp
  have hz := hb _ (List.getElem_mem hp)
  have g1 := getD_map (f := ai) hp
  refine PC.enter 15 [.tmp 4] [] Go.Proofs.Tryz.func51 rfl rfl rfl rfl rfl (by simp) (AWp.of ?_); simp only [go_sem]
  repeat (first | ((with_reducible refine AWp.ofC ?_ ?_); (focus exact rfl); simp only [go_sem]) | ((with_reducible refine an ?_ ?_); focus exact Au))
  refine hcl.val.mono ?_
  rintro r L hA
  rcases hA.inv with ⟨e1, rfl, rfl⟩ | ⟨b, cap, rfl, rfl⟩
  · have := congrArg List.length e1
    rw [List.length_map] at this
    have : c.length = 0 := this
    omega
  · simp only [go_sem]
    repeat (first | ((with_reducible refine AWp.ofC ?_ ?_); (focus exact rfl); simp only [go_sem, g1]) | ((with_reducible refine an ?_ ?_); focus exact Au))
    refine ret_view [true] ?_; simp only [go_sem]
    have e : (c.map ai).set p (ai (c[p] + 1)) = (stpC c p).map ai := by unfold stpC; rw [List.map_set, hcp]
    show Vw [(b, .row 3 1 ((c.map ai).set p (ai (c[p] + 1))) cap)] _ (.sl 1 ((stpC c p).map ai))
    rw [e]
    exact Vw.ofLs (if_pos rfl) (by rw [List.length_map, stp_len])
end Go.AL
end
section
/- The package run: the text of a cut. No condition. -/
namespace Go.AL
open Go Go.RowKit
set_option maxRecDepth 4000
def k8 (z : Int) : Int := IntKind.u8.wrap z
def keyS (c : List Int) : ByteArray := bytesS (c.map k8)
theorem run_key (c : List Int) (hc : c.length ≤ 1000000) : PC Go.Proofs.Tryz.prog 48 [aInts c] (.v (.string (keyS c))) := by
  refine PC.enter 23 [.tmp 2] [18] Go.Proofs.Tryz.func48 rfl rfl rfl rfl rfl (by simp) (AWp.of ?_); simp only [go_sem]
  repeat (first | ((with_reducible refine AWp.ofC ?_ ?_); (focus exact rfl); simp only [go_sem]) | ((with_reducible refine an ?_ ?_); focus exact Au))
  repeat ((with_reducible refine an ?_ ?_); focus exact As)
  intro b8
  repeat (first | ((with_reducible refine AWp.ofC ?_ ?_); (focus exact rfl); simp only [go_sem]) | ((with_reducible refine an ?_ ?_); focus exact Au))
  refine AWp.range' c.length [3] [9, 10] (fun k vs L => ∃ b cap ys, vs = [.ls b 1 0 k cap] ∧ L = [(b, .row 5 1 ys cap)] ∧ k ≤ ys.length ∧ ys.take k = ((c.map k8).map a8).take k) (by omega) rfl rfl rfl ⟨_, _, _, rfl, rfl, Nat.zero_le _, rfl⟩ ?_ ?_
  · rintro k vs L hk - ⟨b, cap, ys, rfl, rfl, hy1, hy2⟩
    have hg := getD_map (f := ai) hk
    simp only [go_sem]
    repeat (first | ((with_reducible refine AWp.ofC ?_ ?_); (focus exact rfl); simp only [go_sem, hg]) | ((with_reducible refine an ?_ ?_); focus exact Au))
    intro b' cap' hc'
    refine ⟨_, List.Sublist.refl _, b', cap', _, rfl, rfl, ?_, ?_⟩
    · rw [List.length_append, List.length_take]; simp only [List.length_cons, List.length_nil]; omega
    · have e : ((c.take (k + 1)).map k8).map a8 = ((c.take k).map k8).map a8 ++ [.v (.int .u8 (IntKind.u8.wrap c[k]))] := by
        rw [List.take_succ_eq_append_getElem hk, List.map_append, List.map_append]; rfl
      rw [e, List.take_of_length_le (by rw [List.length_append, List.length_take]; simp only [List.length_cons, List.length_nil]; omega)]
      rw [← List.map_take, ← List.map_take] at hy2
      rw [hy2]
  · rintro vs L - ⟨b, cap, ys, rfl, rfl, hy1, hy2⟩
    have hy3 : ys.take c.length = (c.map k8).map a8 := by
      rw [hy2]; exact List.take_of_length_le (by simp)
    simp only [go_sem]
    repeat (first | ((with_reducible refine AWp.ofC ?_ ?_); (focus exact rfl); simp only [go_sem, hy3, bytesOf_map]) | ((with_reducible refine an ?_ ?_); focus exact Au))
    refine ret_eq ?_; simp only [go_sem]
    rfl
theorem bytesS_eq (l : List Int) : bytesS l = ⟨(l.map fun n => UInt8.ofNat n.toNat).toArray⟩ := by
  unfold bytesS
  have : ∀ (l : List Int) (r : ByteArray), l.foldl (fun r n => r.push (UInt8.ofNat n.toNat)) r = ⟨r.data ++ (l.map fun n => UInt8.ofNat n.toNat).toArray⟩ := fun l => by
    induction l with
    | nil => intro r; simp
    | cons n l ih => intro r; rw [List.foldl_cons, ih]; simp [ByteArray.push]
  rw [this]
  have h0 : ByteArray.empty.data = #[] := rfl
  rw [h0]; simp
theorem keyS_inj {c d : List Int} (hc : ∀ z ∈ c, 0 ≤ z ∧ z ≤ 255) (hd : ∀ z ∈ d, 0 ≤ z ∧ z ≤ 255) (h : keyS c = keyS d) : c = d := by
  unfold keyS at h
  rw [bytesS_eq, bytesS_eq] at h
  have h1 : (c.map k8).map (fun n => UInt8.ofNat n.toNat) = (d.map k8).map (fun n => UInt8.ofNat n.toNat) := by
    have := congrArg (fun b => b.data.toList) h
    simpa using this
  have e : ∀ l : List Int, (∀ z ∈ l, 0 ≤ z ∧ z ≤ 255) → l.map k8 = l := fun l hl => by
    refine (List.map_congr_left fun z hz => ?_).trans (List.map_id _)
    exact IntWalk.u8_in z (hl z hz)
  rw [e c hc, e d hd] at h1
  apply List.ext_getElem (by have := congrArg List.length h1; rw [List.length_map, List.length_map] at this; exact this)
  intro i g1 g2
  have h2 := List.getElem_of_eq h1 (i := i) (by rw [List.length_map]; exact g1)
  rw [List.getElem_map, List.getElem_map] at h2
  have a1 := hc _ (List.getElem_mem g1)
  have a2 := hd _ (List.getElem_mem g2)
  have h3 := congrArg UInt8.toNat h2
  rw [UInt8.toNat_ofNat', UInt8.toNat_ofNat'] at h3
  omega
theorem isF_byte {ps : List Pr} (hv : validF ps = true) {c : List Int} (hc : isF ps c = true) : ∀ z ∈ c, 0 ≤ z ∧ z ≤ 255 := fun z hz => by
  obtain ⟨h1, h2, _⟩ := isF_iff.1 hc
  obtain ⟨i, hi, rfl⟩ := List.getElem_of_mem hz
  have h3 := (inRange_iff h1).1 h2 i (by omega)
  have h4 := ((procF_parts (show i < ps.length by omega)).1 (procF_of_valid hv (by omega))).2.2.2
  rw [cAt_nat hi] at h3
  omega
end Go.AL
end
section
/- The package run: the least walk. No condition. -/
namespace Go.AL
open Go Go.RowKit
set_option maxRecDepth 4000
def wlkF (ps : List Pr) (perm : List Int → Bool) : List (List Int) := match wlkR ps perm (off ps ps.length) (zeroC ps) with
  | none => []
  | some R => zeroC ps :: R
theorem firstP_eq {ps : List Pr} {f : List Int → Bool} {c : List Int} {p : Nat} (hp : p < c.length) (h : (rdyF ps c p && f (stpC c p)) = true) (h0 : ∀ q, q < p → (rdyF ps c q && f (stpC c q)) = false) : firstP ps f c = some p := by
  unfold firstP
  rw [List.find?_range_eq_some]
  exact ⟨h, List.mem_range.2 hp, fun q hq => by rw [h0 q hq]; rfl⟩
theorem firstP_no {ps : List Pr} {f : List Int → Bool} {c : List Int} (h0 : ∀ q, q < c.length → (rdyF ps c q && f (stpC c q)) = false) : firstP ps f c = none := by
  unfold firstP
  rw [List.find?_eq_none]
  intro q hq
  rw [h0 q (List.mem_range.1 hq)]; simp
theorem mayF_nat {ps : List Pr} {c : List Int} (hc : c.length = ps.length) {p : Nat} (hp : p < c.length) : mayF ps c p = rdyF ps c p := by
  unfold mayF
  rw [decide_eq_true ⟨by omega, by omega⟩, Bool.true_and]
  have : ((p : Int)).toNat = p := by omega
  rw [this]
def NoP (ps : List Pr) (perm : List Int → Bool) (c : List Int) (p : Nat) : Prop := ∀ q, q < p → (rdyF ps c q && perm (stpC c q)) = false
set_option maxHeartbeats 1000000 in
theorem run_walk (ps : List Pr) (hs : Sm ps) (hv : validF ps = true) (g : AV) (hgf : fo g = (True, g)) (perm : List Int → Bool) (hg : ∀ d, isF ps d = true → PV Go.Proofs.Tryz.prog g [aInts d] (ab (perm d))) :
    PC Go.Proofs.Tryz.prog 61 [aRs ps, g] (aRows (wlkF ps perm)) := by
  have hz := run_zero ps hv
  have hfu := run_full ps hs hv
  have hzs : (zeroC ps).sum = 0 := by unfold zeroC; simp
  have hof := off_small hs ps.length (Nat.le_refl _)
  have hl8 := (valid_len hv).2
  have hfl : (fullC ps).length = ps.length := by simp [fullC]
  have hmay := run_may ps hs hv
  have haR : ∀ x : List (List Int), aRows x = .sl 1 (x.map aInts) := fun _ => rfl
  have hwl : ∀ R, wlkR ps perm (off ps ps.length) (zeroC ps) = R → wlkF ps perm = match R with | none => [] | some R => zeroC ps :: R := fun R h => by unfold wlkF; rw [h]
  obtain ⟨r, hr⟩ : ∃ r, r = aRs ps := ⟨_, rfl⟩
  have hrf : fo r = (True, r) := by rw [hr]; rfl
  rw [← hr] at hz hfu hmay ⊢
  clear hr
  refine PC.enter 51 [.tmp 4] [48] Go.Proofs.Tryz.func61 rfl rfl rfl rfl rfl (by simp) (AWp.of ?_); simp only [go_sem]
  repeat (first | ((with_reducible refine AWp.ofC ?_ ?_); (focus exact rfl); simp only [go_sem, hrf]) | ((with_reducible refine an ?_ ?_); focus exact Au))
  repeat ((with_reducible refine an ?_ ?_); focus exact As)
  refine (hz).val.use ?_; simp only [go_sem]
  repeat (first | ((with_reducible refine AWp.ofC ?_ ?_); (focus exact rfl); simp only [go_sem]) | ((with_reducible refine an ?_ ?_); focus exact Au))
  intro b12
  repeat (first | ((with_reducible refine AWp.ofC ?_ ?_); (focus exact rfl); simp only [go_sem, hrf]) | ((with_reducible refine an ?_ ?_); focus exact Au))
  repeat ((with_reducible refine an ?_ ?_); focus exact As)
  refine (hfu).val.use ?_; simp only [go_sem]
  refine AWp.block (AWp.loopN [5, 6] [0, 1, 7] (fun m vs L => ∃ c O v, vs = [aInts c, v] ∧ isF ps c = true ∧ c.sum + m = off ps ps.length ∧ (O.length : Int) = c.sum + 1 ∧ (wlkR ps perm (off ps ps.length) (zeroC ps)).map (zeroC ps :: ·) = (wlkR ps perm m c).map (O ++ ·) ∧ AppSt 42 1 (O.map aInts) v L) (off ps ps.length) ?_ ?_)
  · exact ⟨zeroC ps, [zeroC ps], _, rfl, zeroC_is ps, by omega, by rw [hzs]; rfl, rfl, .row _ _ _⟩
  rintro m vs L - ⟨c, O, v, rfl, hc, hsm, hol, hw, hA⟩
  have hcl := (isF_iff.1 hc).1
  have heq := ints_equal c (fullC ps) (by omega)
  have hfs := full_of_sum hc
  have hfoA : ∀ b k off len cap : Nat, fo (.ls b k off len cap) = (True, .ls b k off len cap) := fun _ _ _ _ _ => rfl
  have hO0 : O ≠ [] := fun e => by subst e; have := sum_nonneg c (isF_nonneg hc); simp at hol; omega
  obtain ⟨bo, cap, rfl, rfl⟩ : ∃ bo cap, v = .ls bo 1 0 (O.map aInts).length cap ∧ L = [(bo, .row 42 1 (O.map aInts) cap)] := by
    rcases hA.inv with ⟨e1, _, _⟩ | h
    · exact absurd (List.map_eq_nil_iff.1 e1) hO0
    · exact h
  cases m with
  | zero =>
    have hcf : c = fullC ps := hfs.2 (by omega)
    have hde : decide (c = fullC ps) = true := decide_eq_true hcf
    rw [hde] at heq
    have hres : wlkF ps perm = O := by
      have e0 : wlkR ps perm 0 c = some [] := rfl
      rw [e0] at hw
      cases hx : wlkR ps perm (off ps ps.length) (zeroC ps) with
      | none => rw [hx] at hw; cases hw
      | some R =>
        rw [hx] at hw
        rw [hwl _ hx]
        have := Option.some.inj hw
        simpa using this
    rw [hres]
    simp only [go_sem]
    repeat (first | ((with_reducible refine AWp.ofC ?_ ?_); (focus exact rfl); simp only [go_sem]) | ((with_reducible refine an ?_ ?_); focus exact Au))
    repeat ((with_reducible refine an ?_ ?_); focus exact As)
    refine (heq).val.use ?_; simp only [go_sem]
    repeat (first | ((with_reducible refine AWp.ofC ?_ ?_); (focus exact rfl); simp only [go_sem]) | ((with_reducible refine an ?_ ?_); focus exact Au))
    refine ret_view [true] ?_; simp only [go_sem]
    exact Vw.ofLs (if_pos rfl) (by rw [List.length_map])
  | succ m =>
    have hcf : ¬ c = fullC ps := fun e => by have := hfs.1 e; omega
    have hde : decide (c = fullC ps) = false := decide_eq_false hcf
    rw [hde] at heq
    have hcb := isF_cb hs hc
    simp only [go_sem]
    repeat (first | ((with_reducible refine AWp.ofC ?_ ?_); (focus exact rfl); simp only [go_sem]) | ((with_reducible refine an ?_ ?_); focus exact Au))
    repeat ((with_reducible refine an ?_ ?_); focus exact As)
    refine (heq).val.use ?_; simp only [go_sem]
    repeat (first | ((with_reducible refine AWp.ofC ?_ ?_); (focus exact rfl); simp only [go_sem]) | ((with_reducible refine an ?_ ?_); focus exact Au))
    refine AWp.cut [0, 1, 5, 6, 7, 8] (fun vs L' => ∃ p : Nat, vs = [r, g, aInts c, .ls bo 1 0 (O.map aInts).length cap, aInts (fullC ps), ai p] ∧ L' = [(bo, .row 42 1 (O.map aInts) cap)] ∧ ((p < c.length ∧ firstP ps perm c = some p) ∨ (p = c.length ∧ firstP ps perm c = none))) ?_ ?_
    · refine AWp.block (AWp.loopN [8] [0, 1, 5, 6, 7] (fun k vs L' => ∃ p : Nat, vs = [ai p] ∧ p + k = c.length ∧ L' = [(bo, .row 42 1 (O.map aInts) cap)] ∧ NoP ps perm c p) c.length ⟨0, rfl, by omega, rfl, fun q hq => by omega⟩ ?_)
      rintro k vs L' - ⟨p, rfl, hpk, rfl, hno⟩
      cases k with
      | zero =>
        have hpl : ¬ (p : Int) < (c.length : Int) := by omega
        have hpe : p = c.length := by omega
        simp only [go_sem]
        repeat (first | ((with_reducible refine AWp.ofC ?_ ?_); (focus exact rfl); simp only [go_sem, hpl, hrf]) | ((with_reducible refine an ?_ ?_); focus exact Au))
        refine GCall.use (ab false) (fun h => False.elim h) ?_
        simp only [go_sem, hgf]
        repeat (first | ((with_reducible refine AWp.ofC ?_ ?_); (focus exact rfl); simp only [go_sem, hpl, hgf, hrf, hfoA]) | ((with_reducible refine an ?_ ?_); focus exact Au))
        refine GCall.use (aInts []) (fun h => False.elim h) ?_
        simp only [go_sem]
        repeat (first | ((with_reducible refine AWp.ofC ?_ ?_); (focus exact rfl); simp only [go_sem, hpl, hgf, hrf, hfoA]) | ((with_reducible refine an ?_ ?_); focus exact Au))
        refine GCall.use (ab false) (fun h => False.elim h) ?_
        simp only [go_sem]
        repeat (first | ((with_reducible refine AWp.ofC ?_ ?_); (focus exact rfl); simp only [go_sem]) | ((with_reducible refine an ?_ ?_); focus exact Au))
        exact ⟨_, List.Sublist.refl _, p, rfl, rfl, .inr ⟨hpe, firstP_no fun q hq => hno q (by omega)⟩⟩
      | succ k =>
        have hpl : (p : Int) < (c.length : Int) := by omega
        have hp : p < c.length := by omega
        have hmp := hmay c hc p
        rw [mayF_nat hcl hp] at hmp
        have hne := run_next c hcb.1 hcb.2 p hp
        simp only [go_sem]
        repeat (first | ((with_reducible refine AWp.ofC ?_ ?_); (focus exact rfl); simp only [go_sem, hpl, hrf]) | ((with_reducible refine an ?_ ?_); focus exact Au))
        repeat ((with_reducible refine an ?_ ?_); focus exact As)
        refine GCall.use (ab (rdyF ps c p)) (fun _ => ⟨At, (hmp).val.use ⟨rfl, rfl⟩⟩) ?_; simp only [go_sem, hgf]
        repeat (first | ((with_reducible refine AWp.ofC ?_ ?_); (focus exact rfl); simp only [go_sem, hpl, hgf, hrf, hfoA]) | ((with_reducible refine an ?_ ?_); focus exact Au))
        repeat ((with_reducible refine an ?_ ?_); focus exact As)
        refine GCall.use (aInts (stpC c p)) (fun _ => ⟨At, (hne).val.use ⟨rfl, rfl⟩⟩) ?_; simp only [go_sem]
        repeat (first | ((with_reducible refine AWp.ofC ?_ ?_); (focus exact rfl); simp only [go_sem, hpl, hgf, hrf, hfoA]) | ((with_reducible refine an ?_ ?_); focus exact Au))
        refine GCall.use (ab (perm (stpC c p))) (fun h => ⟨by simpa using h, (hg _ (rdy_is (by simpa using h))).use ⟨rfl, rfl⟩⟩) ?_
        simp only [go_sem]
        cases hrp : (rdyF ps c p && perm (stpC c p)) with
        | true =>
          rw [Bool.and_eq_true] at hrp
          repeat (first | ((with_reducible refine AWp.ofC ?_ ?_); (focus exact rfl); simp only [go_sem, hrp.1, hrp.2]) | ((with_reducible refine an ?_ ?_); focus exact Au))
          exact ⟨_, List.Sublist.refl _, p, rfl, rfl, .inl ⟨hp, firstP_eq hp (by rw [hrp.1, hrp.2]; rfl) hno⟩⟩
        | false =>
          have hnn : (!rdyF ps c p || !perm (stpC c p)) = true := by rw [← Bool.not_and, hrp]; rfl
          have hno' : NoP ps perm c (p + 1) := fun q hq => by
            by_cases e : q = p
            · subst e; exact hrp
            · exact hno q (by omega)
          cases hr : rdyF ps c p with
          | false =>
            repeat (first | ((with_reducible refine AWp.ofC ?_ ?_); (focus exact rfl); simp only [go_sem]) | ((with_reducible refine an ?_ ?_); focus exact Au))
            exact ⟨_, List.Sublist.refl _, k, by omega, p + 1, rfl, by omega, rfl, hno'⟩
          | true =>
            rw [hr, Bool.true_and] at hrp
            repeat (first | ((with_reducible refine AWp.ofC ?_ ?_); (focus exact rfl); simp only [go_sem, hrp]) | ((with_reducible refine an ?_ ?_); focus exact Au))
            exact ⟨_, List.Sublist.refl _, k, by omega, p + 1, rfl, by omega, rfl, hno'⟩
    · rintro vs L' - ⟨p, rfl, rfl, hcase⟩
      simp only [go_sem]
      rcases hcase with ⟨hp, hf⟩ | ⟨rfl, hf⟩
      · obtain ⟨_, a2, a3⟩ := firstP_some hf
        have hne := run_next c hcb.1 hcb.2 p hp
        have hpl : ¬ (p : Int) = (c.length : Int) := by omega
        have hsp : (stpC c p).sum = c.sum + 1 := sum_stpC hp
        repeat (first | ((with_reducible refine AWp.ofC ?_ ?_); (focus exact rfl); simp only [go_sem, hpl]) | ((with_reducible refine an ?_ ?_); focus exact Au))
        repeat ((with_reducible refine an ?_ ?_); focus exact As)
        refine (hne).val.use ?_; simp only [go_sem]
        repeat (first | ((with_reducible refine AWp.ofC ?_ ?_); (focus exact rfl); simp only [go_sem, hfoA]) | ((with_reducible refine an ?_ ?_); focus exact Au))
        intro b' cap' hc'
        have e : (O ++ [stpC c p]).map aInts = O.map aInts ++ [.sl 1 ((stpC c p).map ai)] := by rw [List.map_append]; rfl
        refine ⟨_, List.Sublist.refl _, m, by omega, stpC c p, O ++ [stpC c p], _, rfl, rdy_is a2, by omega, by rw [List.length_append, List.length_cons, List.length_nil]; omega, ?_, ?_⟩
        · rw [hw, wlkR_succ, hf]
          cases hq : wlkR ps perm m (stpC c p) with
          | none => simp only [hq, Option.map_none]
          | some R => simp [hq]
        · rw [e]
          exact AppSt.snoc b' cap' _ (by rw [List.length_map])
      · repeat (first | ((with_reducible refine AWp.ofC ?_ ?_); (focus exact rfl); simp only [go_sem]) | ((with_reducible refine an ?_ ?_); focus exact Au))
        have hres : wlkF ps perm = [] := by
          rw [wlkR_succ, hf] at hw
          cases hx : wlkR ps perm (off ps ps.length) (zeroC ps) with
          | none => exact hwl _ hx
          | some R => rw [hx] at hw; cases hw
        rw [hres]
        refine ret_view [] ?_; simp only [go_sem]
        exact .nil _
end Go.AL
end
section
/- Irreducible cuts: the package's and the reference's. No condition. -/
namespace Go.AL
open Go Go.RowKit
set_option maxRecDepth 4000
def takC (c : List Int) (p : Nat) : List Int := c.set p (cAt c p - 1)
/-- Whether the last event of a process may be taken away. -/
def remB (ps : List Pr) (c : List Int) (p : Nat) : Bool := decide (0 < cAt c p) && isF ps (takC c p)
def remN (ps : List Pr) (c : List Int) (k : Nat) : Nat := ((List.range k).filter (remB ps c)).length
def irrF (ps : List Pr) (c : List Int) : Bool := decide (remN ps c c.length = 1)
/-- None of the first n events of q asks for the last of p. -/
def freeN (ps : List Pr) (c : List Int) (p : Nat) (x : Pr) (n : Nat) : Bool := (x.evs.take n).all fun e => !decide ((needE ps e).2 = cAt c p) || !decide ((needE ps e).1 = p)
def freeU (ps : List Pr) (c : List Int) (p k : Nat) : Bool := (List.range k).all fun q => freeN ps c p (ps.getD q ⟨⟨#[]⟩, [], []⟩) (cAt c q).toNat
end Go.AL
end
section
/- There are as many irreducible cuts as events. Plain laws. No condition. -/
namespace Go.AL
open Go Go.RowKit
set_option maxRecDepth 4000
/-- The least cut with the event i of p (from 0). -/
def ptF (ps : List Pr) (p i : Nat) : List Int := closeF ps (stC ps.length p ((i : Int) + 1))
section
variable {ps : List Pr} (hv : validF ps = true) {p : Nat} (hp : p < ps.length) {i : Nat} (hi : i < ps[p].evs.length)
include hv hp hi
theorem pt_is : isF ps (ptF ps p i) = true := by
  obtain ⟨a1, a2⟩ := stC_ok (k := (i : Int) + 1) hp (by omega) (by omega)
  obtain ⟨b1, b2, _⟩ := closeF_ok hv a1 a2
  exact isF_iff.2 ⟨b1, b2, closeF_closed hv a1 a2⟩
theorem pt_has : (i : Int) + 1 ≤ cAt (ptF ps p i) p := by
  obtain ⟨a1, a2⟩ := stC_ok (k := (i : Int) + 1) hp (by omega) (by omega)
  have := closeF_ge hv a1 a2 p hp
  rw [stC_cAt hp, if_pos rfl] at this
  exact this
end
theorem pt_least {ps : List Pr} (hv : validF ps = true) {p : Nat} (hp : p < ps.length) {i : Nat} {d : List Int} (hd : isF ps d = true) (h : (i : Int) + 1 ≤ cAt d p) : ∀ q, q < ps.length → cAt (ptF ps p i) q ≤ cAt d q := by
  obtain ⟨d1, d2, d3⟩ := isF_iff.1 hd
  have := need_le hv d1 d2 d3 (q := p) (k := i + 1) hp (by omega)
  have e : (((i + 1 : Nat) : Nat) : Int) = (i : Int) + 1 := by omega
  rw [e] at this
  exact this
end Go.AL
end
section
/- Runs, plainly: the order of the events of a run, and exchanging two neighbors. No condition. -/
namespace Go.AL
open Go Go.RowKit
set_option maxRecDepth 4000
def evtF : List (List Int) → List Eid
  | [] => []
  | a :: r => evtG a r
theorem ofR_cons (ps : List Pr) (c : List Int) (x : Eid) (l : List Eid) : ofR ps c (x :: l) = if (0 ≤ x.1 ∧ x.1 < ps.length) ∧ rdyF ps c x.1.toNat = true ∧ x.2 = cAt c x.1 + 1 then (ofR ps (stpC c x.1.toNat) l).map (stpC c x.1.toNat :: ·) else none := rfl
theorem ofR_go {ps : List Pr} {c : List Int} {p : Nat} (l : List Eid) (hp : p < ps.length) (hr : rdyF ps c p = true) : ofR ps c (((p : Int), cAt c p + 1) :: l) = (ofR ps (stpC c p) l).map (stpC c p :: ·) := by
  rw [ofR_cons, if_pos ⟨⟨by simp only; omega, by simp only; omega⟩, hr, rfl⟩]
  rfl
theorem chn_cons {ps : List Pr} {a b : List Int} {r : List (List Int)} (ha : isF ps a = true) : chnF ps a (b :: r) = true ↔ ∃ q : Nat, q < ps.length ∧ rdyF ps a q = true ∧ b = stpC a q ∧ stepF a b = q ∧ chnF ps b r = true := by
  have hl := (isF_iff.1 ha).1
  have e : chnF ps a (b :: r) = ((isF ps b && decide (0 ≤ stepF a b)) && chnF ps b r) := rfl
  rw [e, Bool.and_eq_true, Bool.and_eq_true, decide_eq_true_eq]
  constructor
  · rintro ⟨⟨h1, h2⟩, h3⟩
    have h4 := stpP_step (b := b) ha
    rw [if_pos ⟨h1, h2⟩] at h4
    obtain ⟨g1, g2, g3⟩ := (stpP_some hl).1 h4
    exact ⟨_, g1, g2, g3, by omega, h3⟩
  · rintro ⟨q, h1, h2, h3, h4, h5⟩
    exact ⟨⟨by rw [h3]; exact rdy_is h2, by omega⟩, h5⟩
theorem ofR_evt {ps : List Pr} : ∀ {R : List (List Int)} {c : List Int}, isF ps c = true → chnF ps c R = true → ofR ps c (evtG c R) = some R
  | [], _, _, _ => rfl
  | b :: R, c, hc, h => by
    obtain ⟨q, h1, h2, rfl, h4, h5⟩ := (chn_cons hc).1 h
    have hl := (isF_iff.1 hc).1
    have e : evtG c (stpC c q :: R) = (stepF c (stpC c q), cAt (stpC c q) (stepF c (stpC c q))) :: evtG (stpC c q) R := rfl
    rw [e, h4, cAt_stp (by omega), if_pos rfl, ofR_go _ h1 h2, ofR_evt (rdy_is h2) h5]
    rfl
theorem ofR_inv {ps : List Pr} : ∀ {l : List Eid} {c : List Int} {R : List (List Int)}, isF ps c = true → ofR ps c l = some R → chnF ps c R = true ∧ evtG c R = l
  | [], c, R, hc, h => by
    have : R = [] := (Option.some.inj h).symm
    subst this; exact ⟨rfl, rfl⟩
  | x :: l, c, R, hc, h => by
    rw [ofR_cons] at h
    split at h
    · rename_i hx
      obtain ⟨⟨h1, h2⟩, h3, h4⟩ := hx
      cases hs : ofR ps (stpC c x.1.toNat) l with
      | none => rw [hs] at h; cases h
      | some R' =>
        rw [hs] at h
        have hR : R = stpC c x.1.toNat :: R' := (Option.some.inj h).symm
        subst hR
        obtain ⟨i1, i2⟩ := ofR_inv (rdy_is h3) hs
        have hl := (isF_iff.1 hc).1
        have hst : stepF c (stpC c x.1.toNat) = (x.1.toNat : Nat) := stepF_iff.2 ⟨by omega, rfl⟩
        refine ⟨(chn_cons hc).2 ⟨x.1.toNat, by omega, h3, rfl, hst, i1⟩, ?_⟩
        show (stepF c (stpC c x.1.toNat), cAt (stpC c x.1.toNat) (stepF c (stpC c x.1.toNat))) :: evtG (stpC c x.1.toNat) R' = x :: l
        have e1 : ((x.1.toNat : Nat) : Int) = x.1 := by omega
        rw [i2, hst, cAt_stp (by omega), if_pos rfl, e1, ← h4]
    · cases h
theorem isrun_inv {ps : List Pr} {r : List (List Int)} (h : isRunF ps r = true) : ∃ R, r = zeroC ps :: R ∧ chnF ps (zeroC ps) R = true ∧ (zeroC ps :: R).getLast? = some (fullC ps) := by
  cases r with
  | nil => cases h
  | cons a R =>
    have h : (decide (a = zeroC ps ∧ (a :: R).getLast? = some (fullC ps)) && chnF ps a R) = true := h
    rw [Bool.and_eq_true, decide_eq_true_eq] at h
    obtain ⟨⟨rfl, h2⟩, h3⟩ := h
    exact ⟨R, rfl, h3, h2⟩
theorem isrun_mk {ps : List Pr} {R : List (List Int)} (h : chnF ps (zeroC ps) R = true) (hl : (zeroC ps :: R).getLast? = some (fullC ps)) : isRunF ps (zeroC ps :: R) = true := by
  show (decide (zeroC ps = zeroC ps ∧ (zeroC ps :: R).getLast? = some (fullC ps)) && chnF ps (zeroC ps) R) = true
  rw [decide_eq_true ⟨rfl, hl⟩, h]; rfl
theorem ofF_evt {ps : List Pr} {r : List (List Int)} (h : isRunF ps r = true) : ofF ps (evtF r) = some r := by
  obtain ⟨R, rfl, h1, h2⟩ := isrun_inv h
  unfold ofF evtF
  rw [ofR_evt (zeroC_is ps) h1]
  simp only
  rw [if_pos h2]
theorem ofF_run {ps : List Pr} {l : List Eid} {r : List (List Int)} (h : ofF ps l = some r) : isRunF ps r = true ∧ evtF r = l := by
  unfold ofF at h
  cases hs : ofR ps (zeroC ps) l with
  | none => rw [hs] at h; cases h
  | some R =>
    rw [hs] at h
    simp only at h
    split at h
    · rename_i h2
      have hr : r = zeroC ps :: R := (Option.some.inj h).symm
      subst hr
      obtain ⟨i1, i2⟩ := ofR_inv (zeroC_is ps) hs
      exact ⟨isrun_mk i1 h2, i2⟩
    · cases h
/-- A walk from a cut is a chain. -/
theorem wlk_chn {ps : List Pr} {perm : List Int → Bool} : ∀ {n : Nat} {c : List Int} {R : List (List Int)}, isF ps c = true → wlkR ps perm n c = some R → chnF ps c R = true ∧ R.length = n
  | 0, c, R, hc, h => by
    have : R = [] := (Option.some.inj h).symm
    subst this; exact ⟨rfl, rfl⟩
  | n + 1, c, R, hc, h => by
    rw [wlkR_succ] at h
    cases hf : firstP ps perm c with
    | none => rw [hf] at h; cases h
    | some p =>
      rw [hf] at h
      simp only at h
      cases hs : wlkR ps perm n (stpC c p) with
      | none => rw [hs] at h; cases h
      | some R' =>
        rw [hs] at h
        have hR : R = stpC c p :: R' := (Option.some.inj h).symm
        subst hR
        obtain ⟨a1, a2, _⟩ := firstP_some hf
        obtain ⟨i1, i2⟩ := wlk_chn (rdy_is a2) hs
        have hl := (isF_iff.1 hc).1
        exact ⟨(chn_cons hc).2 ⟨p, by omega, a2, rfl, stepF_iff.2 ⟨a1, rfl⟩, i1⟩, by rw [List.length_cons, i2]⟩
/-! ### Before -/
def ptE (ps : List Pr) (x : Eid) : List Int := ptF ps x.1.toNat (x.2.toNat - 1)
def befE (ps : List Pr) (x y : Eid) : Bool := decide (x ≠ y) && decide (x.2 ≤ cAt (ptE ps y) x.1)
theorem chn_get {ps : List Pr} : ∀ {R : List (List Int)} {c : List Int}, isF ps c = true → chnF ps c R = true → (evtG c R).length = R.length ∧ ∀ (i : Nat) (hi : i < (evtG c R).length) (hi2 : i + 1 < (c :: R).length),
    ∃ p : Nat, p < ps.length ∧ isF ps (c :: R)[i] = true ∧ rdyF ps (c :: R)[i] p = true ∧ (c :: R)[i + 1] = stpC (c :: R)[i] p ∧ (evtG c R)[i] = ((p : Int), cAt (c :: R)[i] p + 1)
  | [], c, hc, h => ⟨rfl, fun i hi => by cases hi⟩
  | b :: R, c, hc, h => by
    obtain ⟨q, h1, h2, rfl, h4, h5⟩ := (chn_cons hc).1 h
    have hl := (isF_iff.1 hc).1
    have e : evtG c (stpC c q :: R) = (stepF c (stpC c q), cAt (stpC c q) (stepF c (stpC c q))) :: evtG (stpC c q) R := rfl
    obtain ⟨i1, i2⟩ := chn_get (rdy_is h2) h5
    refine ⟨by rw [e, List.length_cons, List.length_cons, i1], fun i hi hi2 => ?_⟩
    cases i with
    | zero =>
      refine ⟨q, h1, hc, h2, rfl, ?_⟩
      show (stepF c (stpC c q), cAt (stpC c q) (stepF c (stpC c q))) = _
      rw [h4, cAt_stp (by omega), if_pos rfl]
      rfl
    | succ i =>
      have hi' : i < (evtG (stpC c q) R).length := by rw [e, List.length_cons] at hi; omega
      exact i2 i hi' (by rw [List.length_cons] at hi2; omega)
theorem chn_mono {ps : List Pr} {R : List (List Int)} {c : List Int} (hc : isF ps c = true) (h : chnF ps c R = true) {i : Nat} (hi : i < (c :: R).length) : ∀ (m : Nat) (hj : i + m < (c :: R).length), ∀ q : Nat, q < ps.length → cAt (c :: R)[i] q ≤ cAt (c :: R)[i + m] q
  | 0, hj, q, hq => Int.le_refl _
  | m + 1, hj, q, hq => by
    obtain ⟨g1, g2⟩ := chn_get hc h
    have hj1 : i + m + 1 < (c :: R).length := hj
    obtain ⟨p, a1, a2, a3, a4, a5⟩ := g2 (i + m) (by rw [g1]; rw [List.length_cons] at hj; omega) hj1
    have ih := chn_mono hc h hi m (by omega) q hq
    have e : (c :: R)[i + (m + 1)] = stpC (c :: R)[i + m] p := a4
    rw [e, cAt_stp (by rw [(isF_iff.1 a2).1]; exact hq)]
    split <;> omega
theorem rdy_ev {ps : List Pr} {c : List Int} (hc : isF ps c = true) {p : Nat} (hp : p < ps.length) (h : rdyF ps c p = true) : ∃ i : Nat, i < ps[p].evs.length ∧ cAt c p = i := by
  have h1 := (of_decide_eq_true h).1
  rw [nev_get hp] at h1
  have h2 := ((inRange_iff (isF_iff.1 hc).1).1 (isF_iff.1 hc).2.1 p hp).1
  exact ⟨(cAt c p).toNat, by omega, by omega⟩
theorem ptE_eq (ps : List Pr) (p i : Nat) : ptE ps ((p : Int), (i : Int) + 1) = ptF ps p i := by
  unfold ptE
  have e1 : ((p : Int)).toNat = p := by omega
  have e2 : ((i : Int) + 1).toNat - 1 = i := by omega
  rw [e1, e2]
/-- What comes later on a chain did not happen before what came earlier. -/
theorem chn_bef {ps : List Pr} (hv : validF ps = true) {R : List (List Int)} {c : List Int} (hc : isF ps c = true) (h : chnF ps c R = true) {i j : Nat} (hij : j < i) (hi : i < (evtG c R).length) : befE ps (evtG c R)[i] (evtG c R)[j] = false := by
  obtain ⟨g1, g2⟩ := chn_get hc h
  have hi2 : i + 1 < (c :: R).length := by rw [List.length_cons]; omega
  obtain ⟨p, a1, a2, a3, a4, a5⟩ := g2 i hi hi2
  obtain ⟨q, b1, b2, b3, b4, b5⟩ := g2 j (by omega) (by omega)
  obtain ⟨k, k1, k2⟩ := rdy_ev b2 b1 b3
  have hm := chn_mono hc h (i := j + 1) (by omega) (i - (j + 1)) (by omega) p a1
  have e : (c :: R)[j + 1 + (i - (j + 1))] = (c :: R)[i] := by congr 1; omega
  rw [e] at hm
  have hd : isF ps (c :: R)[j + 1] = true := by rw [b4]; exact rdy_is b3
  have hls := pt_least hv b1 hd (i := k) (by rw [b4, cAt_stp (by rw [(isF_iff.1 b2).1]; exact b1), if_pos rfl, k2]; exact Int.le_refl _) p a1
  unfold befE
  rw [a5, b5, k2, ptE_eq]
  have : ¬ (cAt (c :: R)[i] p + 1 ≤ cAt (ptF ps q k) p) := by omega
  simp only
  rw [decide_eq_false this, Bool.and_false]
/-! ### Exchanging two neighbors -/
def swapL : List Eid → Nat → List Eid
  | x :: y :: l, 0 => y :: x :: l
  | x :: l, i + 1 => x :: swapL l i
  | l, _ => l
def concE (ps : List Pr) (x y : Eid) : Bool := decide (x ≠ y) && (!befE ps x y && !befE ps y x)
theorem stpC_comm {c : List Int} {p q : Nat} (_hp : p < c.length) (_hq : q < c.length) : stpC (stpC c p) q = stpC (stpC c q) p := by
  apply List.ext_getElem (by rw [stp_len, stp_len, stp_len, stp_len])
  intro i h1 h2
  have hi : i < c.length := by rw [stp_len, stp_len] at h1; exact h1
  rw [← cAt_nat h1, ← cAt_nat h2, cAt_stp (c := stpC c p) (by rw [stp_len]; exact hi), cAt_stp (c := stpC c q) (by rw [stp_len]; exact hi), cAt_stp hi, cAt_stp hi]
  split <;> split <;> rfl
theorem swap_chn {ps : List Pr} (hv : validF ps = true) : ∀ {i : Nat} {R : List (List Int)} {c : List Int} (_ : isF ps c = true) (_ : chnF ps c R = true) (hi : i + 1 < (evtG c R).length),
    (concE ps (evtG c R)[i] (evtG c R)[i + 1] = true → ∃ R', ofR ps c (swapL (evtG c R) i) = some R' ∧ (c :: R').getLast? = (c :: R).getLast?) ∧ (concE ps (evtG c R)[i] (evtG c R)[i + 1] = false → ofR ps c (swapL (evtG c R) i) = none)
  | 0, [], _, _, _, hi => by cases hi
  | 0, [b], _, _, _, hi => by simp [evtG] at hi
  | 0, b :: d :: R, c, hc, h, hi => by
    have hbef := chn_bef hv hc h (i := 1) (j := 0) (by omega) hi
    obtain ⟨p, h1, h2, rfl, h4, h5⟩ := (chn_cons hc).1 h
    have hb := rdy_is h2
    obtain ⟨q, j1, j2, rfl, j4, j5⟩ := (chn_cons hb).1 h5
    have hl := (isF_iff.1 hc).1
    have e : evtG c (stpC c p :: stpC (stpC c p) q :: R) = ((p : Int), cAt c p + 1) :: ((q : Int), cAt (stpC c p) q + 1) :: evtG (stpC (stpC c p) q) R := by
      show (stepF c (stpC c p), cAt (stpC c p) (stepF c (stpC c p))) :: (stepF (stpC c p) (stpC (stpC c p) q), cAt (stpC (stpC c p) q) (stepF (stpC c p) (stpC (stpC c p) q))) :: evtG (stpC (stpC c p) q) R = _
      rw [h4, j4, cAt_stp (c := stpC c p) (by rw [stp_len]; omega), if_pos rfl, cAt_stp (c := c) (p := p) (q := p) (by omega), if_pos rfl]
    simp only [e] at hbef ⊢
    simp only [List.getElem_cons_succ, List.getElem_cons_zero] at hbef ⊢
    obtain ⟨a, a1, a2⟩ := rdy_ev hc h1 h2
    have hsw : swapL (((p : Int), cAt c p + 1) :: ((q : Int), cAt (stpC c p) q + 1) :: evtG (stpC (stpC c p) q) R) 0 = ((q : Int), cAt (stpC c p) q + 1) :: ((p : Int), cAt c p + 1) :: evtG (stpC (stpC c p) q) R := rfl
    rw [hsw]
    have hce : concE ps ((p : Int), cAt c p + 1) ((q : Int), cAt (stpC c p) q + 1) = (decide (((p : Int), cAt c p + 1) ≠ ((q : Int), cAt (stpC c p) q + 1)) && !befE ps ((p : Int), cAt c p + 1) ((q : Int), cAt (stpC c p) q + 1)) := by
      unfold concE
      rw [hbef, Bool.not_false, Bool.and_true]
    rw [hce]
    by_cases hpq : p = q
    · subst hpq
      have e1 : cAt (stpC c p) p = cAt c p + 1 := by rw [cAt_stp (by omega), if_pos rfl]
      have hb2 : befE ps ((p : Int), cAt c p + 1) ((p : Int), cAt (stpC c p) p + 1) = true := by
        obtain ⟨b, b1, b2⟩ := rdy_ev hb j1 j2
        unfold befE
        rw [b2, ptE_eq, a2]
        have h6 := pt_has hv h1 b1
        simp only
        rw [decide_eq_true (by intro h; have := (Prod.mk.inj h).2; omega), decide_eq_true (by omega)]
        rfl
      rw [hb2]
      refine ⟨fun hcn => by simp at hcn, fun _ => ?_⟩
      rw [ofR_cons, if_neg]
      rintro ⟨_, _, h6⟩
      simp only at h6
      omega
    · have e1 : cAt (stpC c p) q = cAt c q := by rw [cAt_stp (by omega), if_neg hpq]
      rw [e1]
      obtain ⟨b, b1, b2⟩ := rdy_ev hb j1 j2
      rw [e1] at b2
      by_cases hbf : befE ps ((p : Int), cAt c p + 1) ((q : Int), cAt c q + 1) = true
      · rw [hbf]
        refine ⟨fun hcn => by simp at hcn, fun _ => ?_⟩
        rw [ofR_cons, if_neg]
        rintro ⟨_, h6, _⟩
        have h6 : rdyF ps c q = true := h6
        unfold befE at hbf
        rw [b2, ptE_eq] at hbf
        simp only [Bool.and_eq_true, decide_eq_true_eq] at hbf
        have h7 := pt_least hv j1 (rdy_is h6) (i := b) (by rw [cAt_stp (by omega), if_pos rfl, b2]; exact Int.le_refl _) p h1
        rw [cAt_stp (by omega), if_neg (fun e => hpq e.symm)] at h7
        omega
      · have hbf : befE ps ((p : Int), cAt c p + 1) ((q : Int), cAt c q + 1) = false := by simpa using hbf
        have hne : ((p : Int), cAt c p + 1) ≠ ((q : Int), cAt c q + 1) := fun e => hpq (by have := (Prod.mk.inj e).1; omega)
        rw [hbf, decide_eq_true hne]
        refine ⟨fun _ => ?_, fun hcn => by simp at hcn⟩
        have hq : isF ps (stpC c q) = true := by
          refine (stp_iff hv hc j1 b1 b2).2 ?_
          have h8 := (stp_iff hv hb j1 b1 (by rw [e1]; exact b2)).1 (rdy_is j2)
          unfold needE at h8 ⊢
          split at h8
          · rename_i hk
            rw [if_pos hk]
            obtain ⟨s, hs, t, ht, es, _, _⟩ := sndr_some (recv_sndr (valid_parts hv).2.2 j1 b1 hk)
            have hcl := closed_iff.1 (isF_iff.1 (pt_is hv j1 b1)).2.2 q j1 b b1 hk (pt_has hv j1 b1)
            rw [es] at h8 hcl ⊢
            simp only at h8 hcl ⊢
            rw [cAt_stp (by omega)] at h8
            split at h8
            · rename_i eps
              subst eps
              by_cases h9 : (t : Int) + 1 ≤ cAt c p
              · exact h9
              · exfalso
                unfold befE at hbf
                rw [decide_eq_true hne, Bool.true_and, decide_eq_false_iff_not, b2, ptE_eq] at hbf
                simp only at hbf
                omega
            · exact h8
          · rename_i hk
            rw [if_neg hk]
            have := ((inRange_iff hl).1 (isF_iff.1 hc).2.1 0 (by omega)).1
            simpa using this
        have hrq : rdyF ps c q = true := by
          unfold rdyF
          rw [decide_eq_true_eq]
          exact ⟨by rw [nev_get j1]; omega, hq⟩
        have hrp : rdyF ps (stpC c q) p = true := by
          unfold rdyF
          rw [decide_eq_true_eq, ← stpC_comm (by omega) (by omega)]
          refine ⟨?_, rdy_is j2⟩
          rw [cAt_stp (by omega), if_neg (fun e => hpq e.symm)]
          exact (of_decide_eq_true h2).1
        have e2 : cAt c p = cAt (stpC c q) p := by rw [cAt_stp (by omega), if_neg (fun e => hpq e.symm)]
        rw [ofR_go _ j1 hrq, e2, ofR_go _ h1 hrp, stpC_comm (c := c) (p := p) (q := q) (by omega) (by omega)]
        rw [stpC_comm (c := c) (p := p) (q := q) (by omega) (by omega)] at j5
        rw [ofR_evt (rdy_is hrp) j5]
        refine ⟨stpC c q :: stpC (stpC c q) p :: R, rfl, ?_⟩
        rw [List.getLast?_cons_cons, List.getLast?_cons_cons, List.getLast?_cons_cons, List.getLast?_cons_cons]
  | i + 1, [], _, _, _, hi => by cases hi
  | i + 1, b :: R, c, hc, h, hi => by
    obtain ⟨p, h1, h2, rfl, h4, h5⟩ := (chn_cons hc).1 h
    have hl := (isF_iff.1 hc).1
    have e : evtG c (stpC c p :: R) = ((p : Int), cAt c p + 1) :: evtG (stpC c p) R := by
      show (stepF c (stpC c p), cAt (stpC c p) (stepF c (stpC c p))) :: evtG (stpC c p) R = _
      rw [h4, cAt_stp (by omega), if_pos rfl]
    simp only [e, List.length_cons] at hi ⊢
    simp only [List.getElem_cons_succ]
    have ih := swap_chn hv (i := i) (rdy_is h2) h5 (by omega)
    have hsw : swapL (((p : Int), cAt c p + 1) :: evtG (stpC c p) R) (i + 1) = ((p : Int), cAt c p + 1) :: swapL (evtG (stpC c p) R) i := by
      cases hg : evtG (stpC c p) R <;> rfl
    rw [hsw, ofR_go _ h1 h2]
    refine ⟨fun hcn => ?_, fun hcn => by rw [ih.2 hcn]; rfl⟩
    obtain ⟨R', g1, g2⟩ := ih.1 hcn
    exact ⟨stpC c p :: R', by rw [g1]; rfl, by rw [List.getLast?_cons_cons, List.getLast?_cons_cons, g2]⟩
theorem swapL_set : ∀ {l : List Eid} {i : Nat} (hi : i + 1 < l.length), swapL l i = (l.set i l[i + 1]).set (i + 1) l[i]
  | [], i, hi => by cases hi
  | [x], i, hi => by simp at hi
  | x :: y :: l, 0, _ => rfl
  | x :: y :: l, i + 1, hi => by
    have e : swapL (x :: y :: l) (i + 1) = x :: swapL (y :: l) i := rfl
    rw [e, swapL_set (l := y :: l) (i := i) (by simpa using hi)]
    rfl
end Go.AL
end
