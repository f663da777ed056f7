/- Texts of this claim's proof: WCs, WSd, WXd, AlBr, AlBr2. No condition. -/
import Derived.Test.YtceeooppejjliaaGreatDoorM17
import Derived.Test.YtceeooppejjliaaGreatDoorM13
import Derived.Test.YtceeooppejjliaaGreatDoorM8
import Derived.Test.YtceeooppejjliaaGreatDoorM16
import Derived.Test.YtceeooppejjliaaGreatDoorM7
import Derived.Test.YtceeooppejjliaaGreatDoorM4
import Derived.ProofKit
section
namespace Go.AL
open Go Go.RowKit
set_option maxRecDepth 4000
theorem ref22_Fits (ps : List Pr) (hs : Sm ps) (c : List Int) : PC Proofs.Tryz.prog 137 [aTr ps, aInts c] (ab (decide (c.length = ps.length))) := by
 have hl := hs.procs
 refine PC.enter 11 [.tmp 4] [2] Proofs.Tryz.func137 rfl rfl rfl rfl rfl (by simp) (AWp.of ?_); simp only [go_sem]
 repeat (first | ((with_reducible refine AWp.ofC ?_ ?_); exact rfl; simp only [go_sem]) | ((with_reducible refine an ?_ ?_); exact Au))
 refine ret_eq ?_; simp only [go_sem]
 congr 2
 simp only [decide_eq_decide]; omega
theorem ref22_Range (ps : List Pr) (hs : Sm ps) (c : List Int) (hc : c.length = ps.length) : PC Proofs.Tryz.prog 138 [aTr ps, aInts c] (ab (inRangeF ps c)) := by
 have hl := hs.procs
 refine PC.enter 31 [.tmp 4] [2] Proofs.Tryz.func138 rfl rfl rfl rfl rfl (by simp) (AWp.of ?_); simp only [go_sem]
 repeat (first | ((with_reducible refine AWp.ofC ?_ ?_); exact rfl; simp only [go_sem]) | ((with_reducible refine an ?_ ?_); exact Au))
 refine AWp.block (AWp.count 5 c.length [] [1, 2] (fun p vs L => L = [] ∧ ∀ q, q < p → cntOk ps c q = true) rfl rfl ⟨rfl, by omega⟩ ?_)
 rintro p vs L hp - ⟨rfl, hI⟩
 simp only [go_sem]
 repeat (first | ((with_reducible refine AWp.ofC ?_ ?_); exact rfl; simp only [go_sem]) | ((with_reducible refine an ?_ ?_); exact Au))
 refine ⟨fun h2 => ?_, fun h2 => ?_⟩
 ·have hpc : p < c.length := by omega
  have hpp : p < ps.length := by omega
  have hco := cntOk_get hpp hpc
  have hgP := getD_map (f := aPr) hpp
  have hgc := getD_map (f := ai) hpc
  refine AWp.seq (AWp.block (AWp.seq ?_))
  refine AWp.drawn mixed 19 (by kernel_rfl) ?_; simp only [go_sem, hgP, hgc]
  repeat ((with_reducible refine an ?_ ?_); exact As)
  repeat (first | ((with_reducible refine AWp.ofC ?_ ?_); exact rfl; simp only [go_sem]) | ((with_reducible refine an ?_ ?_); exact Au))
  refine ⟨fun h3 => ?_, fun h3 => ?_⟩
  ·repeat (first | ((with_reducible refine AWp.ofC ?_ ?_); exact rfl; simp only [go_sem]) | ((with_reducible refine an ?_ ?_); exact Au))
   refine ret_eq ?_; simp only [go_sem]
   have : inRangeF ps c = false := by
    unfold inRangeF
    rw [List.all_eq_false]
    refine ⟨p, List.mem_range.2 hpc, ?_⟩
    rw [hco]
    simp only [Bool.and_eq_true, decide_eq_true_eq]
    omega
   rw [this]
  ·intro h4
   repeat (first | ((with_reducible refine AWp.ofC ?_ ?_); exact rfl; simp only [go_sem]) | ((with_reducible refine an ?_ ?_); exact Au))
   refine ⟨_, List.Sublist.refl _, rfl, fun q hq => ?_⟩
   by_cases e : q = p
   ·subst e; rw [hco]; simp only [Bool.and_eq_true, decide_eq_true_eq]; omega
   ·exact hI q (by omega)
 ·repeat (first | ((with_reducible refine AWp.ofC ?_ ?_); exact rfl; simp only [go_sem]) | ((with_reducible refine an ?_ ?_); exact Au))
  refine ret_eq ?_; simp only [go_sem]
  have : inRangeF ps c = true := by
   unfold inRangeF
   rw [List.all_eq_true]
   exact fun q hq => hI q (by have := List.mem_range.1 hq; omega)
  rw [this]
theorem ref22_closed (ps : List Pr) (hs : Sm ps) (hv : validF ps = true) (c : List Int) (hc : c.length = ps.length) (hr : inRangeF ps c = true) : PC Proofs.Tryz.prog 139 [aTr ps, aInts c] (ab (closedF ps c)) := by
 obtain ⟨hl1, hl8⟩ := valid_len hv
 have hl := hs.procs
 refine PC.enter 27 [.tmp 4] [2] Proofs.Tryz.func139 rfl rfl rfl rfl rfl (by simp) (AWp.of ?_); simp only [go_sem]
 repeat (first | ((with_reducible refine AWp.ofC ?_ ?_); exact rfl; simp only [go_sem]) | ((with_reducible refine an ?_ ?_); exact Au))
 refine AWp.block (AWp.count 5 c.length [] [1, 2] (fun p vs L => L = [] ∧ Ahead ps (fun q j => badEv ps c (((q : Int), (j : Int) + 1), evq ps q j) = false) p 0) rfl rfl ⟨rfl, fun _ _ _ h => by omega, fun j hj => by omega⟩ ?_)
 rintro p vs L hp - ⟨rfl, hA⟩
 simp only [go_sem]
 repeat (first | ((with_reducible refine AWp.ofC ?_ ?_); exact rfl; simp only [go_sem]) | ((with_reducible refine an ?_ ?_); exact Au))
 refine ⟨fun h1 => ?_, fun h1 => ?_⟩
 ·have hpc : p < c.length := by omega
  have hpp : p < ps.length := by omega
  have hgc := getD_map (f := ai) hpc
  have hel := hs.evs _ (List.getElem_mem hpp)
  obtain ⟨hr1, hr2⟩ := inRangeF_get hr hc hpp
  repeat (first | ((with_reducible refine AWp.ofC ?_ ?_); exact rfl; simp only [go_sem]) | ((with_reducible refine an ?_ ?_); exact Au))
  refine AWp.block (AWp.count 6 c[p].toNat [] [1, 2, 5] (fun i vs L => L = [] ∧ Ahead ps (fun q j => badEv ps c (((q : Int), (j : Int) + 1), evq ps q j) = false) p i) rfl rfl ⟨rfl, hA⟩ ?_)
  rintro i vs L hi - ⟨rfl, hB⟩
  simp only [go_sem]
  repeat (first | ((with_reducible refine AWp.ofC ?_ ?_); exact rfl; simp only [go_sem, hgc]) | ((with_reducible refine an ?_ ?_); exact Au))
  refine ⟨fun h2 => ?_, fun h2 => ?_⟩
  ·have hie : i < ps[p].evs.length := by omega
   have hsn := ref22_Sent ps hs hv c hc p hpp i hie (by rw [cAt_nat hpc]; omega)
   have hev := evIds_get hpp hie
   have hq0 := evq_get hpp hie
   rw [← hq0] at hsn hev
   repeat (first | ((with_reducible refine AWp.ofC ?_ ?_); exact rfl; simp only [go_sem]) | ((with_reducible refine an ?_ ?_); exact Au))
   repeat ((with_reducible refine an ?_ ?_); exact As)
   refine (hsn).val.use ?_; simp only [go_sem]
   cases hb : badEv ps c (((p : Int), (i : Int) + 1), evq ps p i) with
   | true =>
    repeat (first | ((with_reducible refine AWp.ofC ?_ ?_); exact rfl; simp only [go_sem]) | ((with_reducible refine an ?_ ?_); exact Au))
    refine ret_eq ?_; simp only [go_sem]
    unfold closedF
    have : (evIds ps).any (badEv ps c) = true := List.any_eq_true.2 ⟨_, List.mem_of_getElem? hev, hb⟩
    rw [this]; rfl
   | false =>
    repeat (first | ((with_reducible refine AWp.ofC ?_ ?_); exact rfl; simp only [go_sem]) | ((with_reducible refine an ?_ ?_); exact Au))
    exact ⟨_, List.Sublist.refl _, rfl, hB.next hb⟩
  ·repeat (first | ((with_reducible refine AWp.ofC ?_ ?_); exact rfl; simp only [go_sem]) | ((with_reducible refine an ?_ ?_); exact Au))
   refine ⟨_, List.Sublist.refl _, rfl, Ahead.row hpp ⟨hB.1, fun j hj => ?_⟩⟩
   by_cases e : j < i
   ·exact hB.2 j e
   ·simp only [badEv, cAt_nat hpc, decide_eq_false (show ¬ (j : Int) + 1 ≤ c[p] by omega), Bool.and_false, Bool.false_and]
 ·repeat (first | ((with_reducible refine AWp.ofC ?_ ?_); exact rfl; simp only [go_sem]) | ((with_reducible refine an ?_ ?_); exact Au))
  refine ret_eq ?_; simp only [go_sem]
  unfold closedF
  have : (evIds ps).any (badEv ps c) = false := by
   rw [List.any_eq_false]
   intro x hx
   obtain ⟨k, hk⟩ := List.getElem?_of_mem hx
   obtain ⟨q, hq, j, hj, _, rfl⟩ := evIds_inv hk
   have := hA.1 q hq j (by omega) hj
   dsimp only at this
   rw [evq_get hq hj] at this
   rw [this]; decide
  rw [this]; rfl
theorem ref22_Consistent (ps : List Pr) (hs : Sm ps) (hv : validF ps = true) (c : List Int) : PC Proofs.Tryz.prog 76 [aTr ps, aInts c] (ab (isF ps c)) := by
 have h0 := ref12_Valid ps hs
 have h1 := ref22_Fits ps hs c
 have h2 := fun h => ref22_Range ps hs c h
 have h3 := fun h1 h2 => ref22_closed ps hs hv c h1 h2
 rw [hv] at h0
 unfold isF
 generalize closedF ps c = B at *
 refine PC.enter 22 [.tmp 4] [2] Proofs.Tryz.func76 rfl rfl rfl rfl rfl (by simp) (AWp.of ?_); simp only [go_sem]
 repeat (first | ((with_reducible refine AWp.ofC ?_ ?_); exact rfl; simp only [go_sem]) | ((with_reducible refine an ?_ ?_); exact Au))
 repeat ((with_reducible refine an ?_ ?_); exact As)
 refine (h0).val.use ?_; simp only [go_sem]
 repeat ((with_reducible refine an ?_ ?_); exact As)
 refine GCall.use (ab (decide (c.length = ps.length))) (fun _ => ⟨At, (h1).val.use ⟨rfl, rfl⟩⟩) ?_; simp only [go_sem]
 repeat ((with_reducible refine an ?_ ?_); exact As)
 refine GCall.use (ab (inRangeF ps c)) ?_ ?_
 ·intro g; exact ⟨At, (h2 (by simpa using g)).val.use ⟨rfl, rfl⟩⟩
 simp only [go_sem]
 repeat ((with_reducible refine an ?_ ?_); exact As)
 refine GCall.use (ab B) ?_ ?_
 ·intro g; exact ⟨At, (h3 (by simpa using g.1) (by simpa using g.2)).val.use ⟨rfl, rfl⟩⟩
 simp only [go_sem]
 repeat (first | ((with_reducible refine AWp.ofC ?_ ?_); exact rfl; simp only [go_sem]) | ((with_reducible refine an ?_ ?_); exact Au))
 refine ret_eq ?_; simp only [go_sem]
theorem ref37_Satisfies (ps : List Pr) (hs : Sm ps) (ts : List Pd) (hz : ∀ t ∈ ts, szF t ≤ 1000000) (htl : ts.length ≤ 1000000) (hf : conF ps ts = 0) (c : List Int) : PC Proofs.Tryz.prog 29 [aTr ps, .sl 6 (ts.map aPd), aInts c] (ab (satG ps (elimOf ps ts) c)) := by
 obtain ⟨hv, htn, hlc⟩ := conF_inv hf
 have hps := hs.procs
 have h1 := ref22_Consistent ps hs hv c
 have hloc : ∀ p (hp : p < ps.length) (hpt : p < ts.length) k, k ≤ ps[p].evs.length → PC Proofs.Tryz.prog 77 [aTr ps, ai p, ai (k : Nat), aPd ts[p]] (ab ((elimOf ps ts).ok p k)) := fun p hp hpt k hk => by
  obtain ⟨c1, _, _, _, c5, c6⟩ := lcl_ok (hlc p hpt)
  have h := ref29_Local ps hs p k hp hk ts[p] (hz _ (List.getElem_mem hpt)) c1 c5 c6
  have hok : (elimOf ps ts).ok p k = lclT ps p ts[p] k := by show (match ts[p]? with | some t => lclT ps p t k | none => true) = _; rw [List.getElem?_eq_getElem hpt]
  rw [hok]; exact h
 generalize elimOf ps ts = E at *
 cases h : isF ps c with
 | false =>
  have hsf : satG ps E c = false := by unfold satG; rw [h]; rfl
  rw [h] at h1
  rw [hsf]
  by_cases hl : (c.length : Int) = ps.length
  ·refine PC.enter 38 [.tmp 6] [3] Proofs.Tryz.func29 rfl rfl rfl rfl rfl (by simp) (AWp.of ?_); simp only [go_sem]
   repeat (first | ((with_reducible refine AWp.ofC ?_ ?_); exact rfl; simp only [go_sem, hl]) | ((with_reducible refine an ?_ ?_); exact Au))
   repeat ((with_reducible refine an ?_ ?_); exact As)
   refine GCall.use (ab false) (fun _ => ⟨At, (h1).val.use ⟨rfl, rfl⟩⟩) ?_; simp only [go_sem]
   repeat ((with_reducible refine an ?_ ?_); exact As)
   repeat (first | ((with_reducible refine AWp.ofC ?_ ?_); exact rfl; simp only [go_sem]) | ((with_reducible refine an ?_ ?_); exact Au))
   refine ret_eq ?_; simp only [go_sem]
  ·refine PC.enter 38 [.tmp 6] [3] Proofs.Tryz.func29 rfl rfl rfl rfl rfl (by simp) (AWp.of ?_); simp only [go_sem]
   repeat (first | ((with_reducible refine AWp.ofC ?_ ?_); exact rfl; simp only [go_sem, hl]) | ((with_reducible refine an ?_ ?_); exact Au))
   repeat ((with_reducible refine an ?_ ?_); exact As)
   refine GCall.use (ab false) (fun _ => ⟨At, (h1).val.use ⟨rfl, rfl⟩⟩) ?_; simp only [go_sem]
   repeat ((with_reducible refine an ?_ ?_); exact As)
   repeat (first | ((with_reducible refine AWp.ofC ?_ ?_); exact rfl; simp only [go_sem]) | ((with_reducible refine an ?_ ?_); exact Au))
   refine ret_eq ?_; simp only [go_sem]
 | true =>
  obtain ⟨hl, hr, _⟩ := isF_iff.1 h
  have hli : (c.length : Int) = ps.length := by omega
  have hrr := (inRange_iff hl).1 hr
  have hno : ∀ p, p < c.length → E.ok p (cAt c p).toNat = false → satG ps E c = false := fun p hp he => by
   unfold satG; rw [h, Bool.true_and]
   exact List.all_eq_false.2 ⟨p, List.mem_range.2 hp, by rw [he]; decide⟩
  have hyes : (∀ p, p < c.length → E.ok p (cAt c p).toNat = true) → satG ps E c = true := fun he => by
   unfold satG; rw [h, Bool.true_and, List.all_eq_true]
   exact fun p hp => he p (List.mem_range.1 hp)
  rw [h] at h1
  generalize satG ps E c = S at *
  refine PC.enter 38 [.tmp 6] [3] Proofs.Tryz.func29 rfl rfl rfl rfl rfl (by simp) (AWp.of ?_); simp only [go_sem]
  repeat (first | ((with_reducible refine AWp.ofC ?_ ?_); exact rfl; simp only [go_sem, hli]) | ((with_reducible refine an ?_ ?_); exact Au))
  repeat ((with_reducible refine an ?_ ?_); exact As)
  refine GCall.use (ab true) (fun _ => ⟨At, (h1).val.use ⟨rfl, rfl⟩⟩) ?_; simp only [go_sem]
  repeat ((with_reducible refine an ?_ ?_); exact As)
  repeat (first | ((with_reducible refine AWp.ofC ?_ ?_); exact rfl; simp only [go_sem]) | ((with_reducible refine an ?_ ?_); exact Au))
  refine AWp.block (AWp.count 7 c.length [] [1, 2, 3] (fun k vs L => L = [] ∧ ∀ p, p < k → E.ok p (cAt c p).toNat = true) rfl rfl ⟨rfl, fun p hp => by omega⟩ ?_)
  rintro k vs L hk - ⟨rfl, hJ⟩
  simp only [go_sem]
  repeat (first | ((with_reducible refine AWp.ofC ?_ ?_); exact rfl; simp only [go_sem]) | ((with_reducible refine an ?_ ?_); exact Au))
  refine ⟨fun h3 => ?_, fun h3 => ?_⟩
  ·have hkc : k < c.length := by omega
   have hkt : k < ts.length := by omega
   have hkp : k < ps.length := by omega
   have gc := getD_map (f := ai) hkc
   have gt := getD_map (f := aPd) hkt
   have hca : cAt c k = c[k] := cAt_nat hkc
   have hrk := hrr k hkp
   rw [hca] at hrk
   have hnk := hno k hkc
   rw [hca] at hnk
   have hlk := hloc k hkp hkt c[k].toNat (by omega)
   have hck : ((c[k].toNat : Nat) : Int) = c[k] := by omega
   rw [hck] at hlk
   generalize c[k] = z at *
   generalize ts[k] = t at *
   obtain ⟨k0, n0, p0, q0, s0, l0⟩ := t
   simp only [aPd_mk] at *
   refine AWp.seq (AWp.block (AWp.seq ?_))
   refine AWp.mix mixed [0, 1, 2, 3, 4, 5, 6, 7, 8, 9, 10, 11] .done (by kernel_rfl) ?_; simp only [go_sem, gc, gt]
   repeat ((with_reducible refine an ?_ ?_); exact As)
   refine GCall.use (ab (E.ok k z.toNat)) ?_ ?_
   ·intro _; exact ⟨At, hlk.val.use ⟨rfl, rfl⟩⟩
   simp only [go_sem]
   repeat ((with_reducible refine an ?_ ?_); exact As)
   cases he : E.ok k z.toNat with
   | false =>
    repeat (first | ((with_reducible refine AWp.ofC ?_ ?_); exact rfl; simp only [go_sem]) | ((with_reducible refine an ?_ ?_); exact Au))
    refine ret_eq ?_; simp only [go_sem]
    rw [hnk he]
   | true =>
    repeat (first | ((with_reducible refine AWp.ofC ?_ ?_); exact rfl; simp only [go_sem]) | ((with_reducible refine an ?_ ?_); exact Au))
    refine ⟨_, List.Sublist.refl _, rfl, fun p hp => ?_⟩
    by_cases e : p = k
    ·subst e; rw [hca]; exact he
    ·exact hJ p (by omega)
  ·repeat (first | ((with_reducible refine AWp.ofC ?_ ?_); exact rfl; simp only [go_sem]) | ((with_reducible refine an ?_ ?_); exact Au))
   refine ret_eq ?_; simp only [go_sem]
   rw [hyes fun p hp => hJ p (by omega)]
end Go.AL
end
section
namespace Go.AL
open Go Go.RowKit
set_option maxRecDepth 4000
theorem Sm.drop {ps : List Pr} (hs : Sm ps) (c : List Int) : Sm (dropF ps c) := by
 have hx : ∀ x ∈ dropF ps c, ∃ y ∈ ps, ∃ n, x = dropP (sentB ps c) y n := by
  intro x hx
  unfold dropF dropS at hx
  obtain ⟨y, hy, rfl⟩ := List.mem_map.1 hx
  exact ⟨y.1, (List.of_mem_zip hy).1, _, rfl⟩
 refine ⟨?_, ?_, ?_, ?_⟩
 ·have := hs.procs; unfold dropF dropS; rw [List.length_map, List.length_zip]; omega
 ·intro x h
  obtain ⟨y, hy, n, rfl⟩ := hx x h
  have := hs.evs y hy
  show ((y.evs.drop n).map _).length ≤ _
  rw [List.length_map, List.length_drop]; omega
 ·intro x h
  obtain ⟨y, hy, n, rfl⟩ := hx x h
  have := hs.vars y hy
  show ((y.vars.map _).zip _).length ≤ _
  rw [List.length_zip, List.length_map]; omega
 ·intro x h e he
  obtain ⟨y, hy, n, rfl⟩ := hx x h
  obtain ⟨z, hz, rfl⟩ := List.mem_map.1 he
  have := hs.asg y hy z (List.mem_of_mem_drop hz)
  unfold dropEv
  split <;> exact this
end Go.AL
end
section
namespace Go.AL
open Go Go.RowKit
set_option maxRecDepth 4000
theorem detects_ans {ps : List Pr} {c : List Int} (hc : givenF ps [c] [] = 0) {ts : List Pd} (hf : conF ps ts = 0) :
  ((ansOf (elimOf ps ts)).holds = true → safeF ps ts c = leqF c (ansOf (elimOf ps ts)).cut ∧ satG ps (elimOf ps ts) (ansOf (elimOf ps ts)).cut = true) ∧ ((ansOf (elimOf ps ts)).holds = false → safeF ps ts c = true ∧ (ansOf (elimOf (dropF ps c) (ts.map (rwF c)))).holds = false) ∧
  ((ansOf (elimOf ps ts)).holds = true → safeF ps ts c = true → (ansOf (elimOf (dropF ps c) (ts.map (rwF c)))).holds = true ∧ shiftR (ansOf (elimOf (dropF ps c) (ts.map (rwF c)))).cut c = ((ansOf (elimOf ps ts)).cut, 0)) := by
 obtain ⟨hv, _, _⟩ := conF_inv hf
 obtain ⟨d1, d2⟩ := detects hc hf
 have hn : ∀ (ps : List Pr) (ts : List Pd), (elimOf ps ts).n = ps.length := fun _ _ => rfl
 have hA : ∀ E : Elim, (lostF E = true → (ansOf E).holds = false) ∧ (lostF E = false → (ansOf E).holds = true ∧ (ansOf E).cut = cutL E.n (finF E)) := fun E => by
  unfold ansOf
  refine ⟨fun h => by rw [h]; rfl, fun h => by rw [h]; exact ⟨rfl, rfl⟩⟩
 obtain ⟨a1, a2⟩ := hA (elimOf ps ts)
 obtain ⟨b1, b2⟩ := hA (elimOf (dropF ps c) (ts.map (rwF c)))
 cases hl : lostF (elimOf ps ts) with
 | true =>
  have e1 := a1 hl
  have e2 := b1 (d1 hl)
  refine ⟨fun h => (by rw [e1] at h; cases h), fun _ => ⟨(by unfold safeF; rw [hl]; rfl), e2⟩, fun h => (by rw [e1] at h; cases h)⟩
 | false =>
  obtain ⟨e1, e2⟩ := a2 hl
  rw [hn] at e2
  have hs : safeF ps ts c = leqF c (cutL ps.length (finF (elimOf ps ts))) := by unfold safeF; rw [hl]; rfl
  refine ⟨fun _ => ⟨by rw [hs, e2], ?_⟩, fun h => (by rw [e1] at h; cases h), fun _ h => ?_⟩
  ·rw [e2]
   exact satG_iff.2 (fin_least hv (elim_need ps ts) hl).1
  ·rw [hs] at h
   obtain ⟨f1, f2⟩ := d2 hl h
   obtain ⟨g1, g2⟩ := b2 f1
   rw [hn] at g2
   exact ⟨g1, by rw [g2, e2]; exact f2⟩
theorem ref49_SafeFaultA (ps : List Pr) (hs : Sm ps) (ts : List Pd) (hz : ∀ t ∈ ts, szF t ≤ 1000000) (htl : ts.length ≤ 1000000) (c : List Int) :
  PC Proofs.Tryz.prog 44 [aTr ps, .sl 6 (ts.map aPd), aInts c] (ai (safeE ps ts c)) := by
 have h1 := ref37_Fault ps hs ts hz htl
 have h2 := ref25_CutFault ps hs c
 unfold safeE
 generalize givenF ps [c] [] = G at *
 generalize conF ps ts = C at *
 by_cases hf : C = 0
 ·rw [if_neg (by simpa using hf)]
  refine PC.enter 17 [.tmp 6] [3] Proofs.Tryz.func44 rfl rfl rfl rfl rfl (by simp) (AWp.of ?_); simp only [go_sem]
  repeat (first | ((with_reducible refine AWp.ofC ?_ ?_); exact rfl; simp only [go_sem]) | ((with_reducible refine an ?_ ?_); exact Au))
  repeat ((with_reducible refine an ?_ ?_); exact As)
  refine (h1).val.use ?_; simp only [go_sem]
  repeat (first | ((with_reducible refine AWp.ofC ?_ ?_); exact rfl; simp only [go_sem, hf]) | ((with_reducible refine an ?_ ?_); exact Au))
  repeat ((with_reducible refine an ?_ ?_); exact As)
  refine (h2).val.use ?_; simp only [go_sem]
  repeat (first | ((with_reducible refine AWp.ofC ?_ ?_); exact rfl; simp only [go_sem]) | ((with_reducible refine an ?_ ?_); exact Au))
  refine ret_eq ?_; simp only [go_sem]
 ·rw [if_pos hf]
  refine PC.enter 17 [.tmp 6] [3] Proofs.Tryz.func44 rfl rfl rfl rfl rfl (by simp) (AWp.of ?_); simp only [go_sem]
  repeat (first | ((with_reducible refine AWp.ofC ?_ ?_); exact rfl; simp only [go_sem]) | ((with_reducible refine an ?_ ?_); exact Au))
  repeat ((with_reducible refine an ?_ ?_); exact As)
  refine (h1).val.use ?_; simp only [go_sem]
  repeat (first | ((with_reducible refine AWp.ofC ?_ ?_); exact rfl; simp only [go_sem, hf]) | ((with_reducible refine an ?_ ?_); exact Au))
  refine ret_eq ?_; simp only [go_sem]
set_option maxHeartbeats 2000000 in
theorem law49_PruneDetects (ps : List Pr) (ts : List Pd) (c : List Int) : PC Proofs.Tryz.prog 8 [aTr ps, .sl 6 (ts.map aPd), aInts c] (ab true) := by
 have haw := law49_awake
 have hbig := law49_big ps
 have hma := law49_many ts
 have hsm := @bigF_sm ps
 have hsize := fun h => law49_size ps h
 have hmz : manyG ts = false → ts.length ≤ 10 ∧ ∀ t ∈ ts, szF t ≤ 300 := manyG_size
 have hSF := fun hs hm => ref49_SafeFaultA ps hs ts (fun t ht => by have := (hmz hm).2 t ht; omega) (by have := (hmz hm).1; omega) c
 refine PC.enter 160 [.tmp 6] [3, 9, 11, 15, 16, 18, 108] Proofs.Tryz.func8 rfl rfl rfl rfl rfl (by simp) (AWp.of ?_); simp only [go_sem]
 repeat (first | ((with_reducible refine AWp.ofC ?_ ?_); exact rfl; simp only [go_sem]) | ((with_reducible refine an ?_ ?_); exact Au))
 repeat ((with_reducible refine an ?_ ?_); exact As)
 refine (haw).val.use ?_; simp only [go_sem]
 repeat (first | ((with_reducible refine AWp.ofC ?_ ?_); exact rfl; simp only [go_sem]) | ((with_reducible refine an ?_ ?_); exact Au))
 repeat ((with_reducible refine an ?_ ?_); exact As)
 refine (hbig).val.use ?_; simp only [go_sem]
 repeat ((with_reducible refine an ?_ ?_); exact As)
 refine GCall.use (ab (manyG ts)) (fun _ => ⟨At, (hma).val.use ⟨rfl, rfl⟩⟩) ?_; simp only [go_sem]
 repeat ((with_reducible refine an ?_ ?_); exact As)
 refine GCall.use (ai (off ps ps.length)) ?_ ?_
 ·intro g; exact ⟨At, (hsize (hsm g.1)).val.use ⟨rfl, rfl⟩⟩
 simp only [go_sem]
 repeat ((with_reducible refine an ?_ ?_); exact As)
 refine GCall.use (ai (safeE ps ts c)) ?_ ?_
 ·intro g; exact ⟨At, (hSF (hsm g.1.1) g.1.2).val.use ⟨rfl, rfl⟩⟩
 simp only [go_sem]
 repeat ((with_reducible refine an ?_ ?_); exact As)
 repeat (first | ((with_reducible refine AWp.ofC ?_ ?_); exact rfl; simp only [go_sem]) | ((with_reducible refine an ?_ ?_); exact Au))
 refine ⟨fun h1 => ?_, fun h1 => ?_⟩
 ·repeat (first | ((with_reducible refine AWp.ofC ?_ ?_); exact rfl; simp only [go_sem]) | ((with_reducible refine an ?_ ?_); exact Au))
  refine ret_eq ?_; simp only [go_sem]
 intro h2 h3 h4
 have hs := hsm h1
 obtain ⟨hl10, hz3⟩ := hmz h2
 have hz : ∀ t ∈ ts, szF t ≤ 1000000 := fun t ht => by have := hz3 t ht; omega
 have hps := hs.procs
 have hfg : conF ps ts = 0 ∧ givenF ps [c] [] = 0 := by
  unfold safeE at h4
  split at h4
  ·rename_i h; exact absurd h4 h
  ·rename_i h; exact ⟨by simpa using h, h4⟩
 obtain ⟨hf, hg⟩ := hfg
 obtain ⟨hv, htn, hlc⟩ := conF_inv hf
 obtain ⟨_, hcl, hcr, _⟩ := givenF_zero hg
 have hul := dropF_length hcl
 have hS := prune_Safe ps hs ts hz (by omega) c (by omega)
 rw [if_pos h4] at hS
 have hP := conj_Possibly ps hs ts hz (by omega)
 unfold aPossR at hP
 rw [if_pos hf] at hP
 have hD := prune_Drop ps hs c (by omega)
 have hDe : aDrop ps c = .tup [aTr (dropF ps c), ai 0] := by unfold aDrop; rw [if_neg (by simpa using hg)]
 rw [hDe] at hD
 have hrz : ∀ t ∈ ts, szF (rwF c t) ≤ 1000000 := fun t ht => by
  have := rwF_size c t
  have := hz3 t ht
  omega
 have hP2 := conj_Possibly (dropF ps c) (hs.drop c) (ts.map (rwF c)) (fun t ht => by obtain ⟨u, hu, rfl⟩ := List.mem_map.1 ht; exact hrz u hu) (by rw [List.length_map]; omega)
 have hcon := con_rw hg hf
 obtain ⟨da1, da2, da3⟩ := detects_ans hg hf
 have hRW := fun t ht => prune_Rewrite t (by have := hz3 t ht; omega) c (by omega)
 have hRL := fun k (hk : k < ts.length) => rw_local hg (hlc k hk)
 have hcutl : (ansOf (elimOf (dropF ps c) (ts.map (rwF c)))).cut.length ≤ 1000000 := by
  unfold ansOf
  split
  ·simp
  ·show (cutL _ _).length ≤ _
   rw [cutL_len]
   show (dropF ps c).length ≤ _
   omega
 have hSh := prune_Shift (ansOf (elimOf (dropF ps c) (ts.map (rwF c)))).cut c hcutl (by omega)
 have hLq := cut_Leq c (ansOf (elimOf ps ts)).cut (by omega)
 have hSat := fun d => ref37_Satisfies ps hs ts hz (by omega) hf d
 have hIE := fun hh => ints_equal (ansOf (elimOf ps ts)).cut (ansOf (elimOf ps ts)).cut hh
 have hcut2 : (ansOf (elimOf ps ts)).cut.length ≤ 1000000 := by
  unfold ansOf
  split
  ·simp
  ·show (cutL _ _).length ≤ _
   rw [cutL_len]
   show ps.length ≤ _
   omega
 have hIE2 := hIE hcut2
 rw [decide_eq_true rfl] at hIE2
 clear hIE
 clear haw hbig hma hsm hsize hmz hSF hDe hcut2
 generalize safeF ps ts c = S at *
 generalize dropF ps c = U at *
 generalize elimOf ps ts = E at *
 generalize ansOf E = A at *
 obtain ⟨n0, n1, n2, n3, n4, n5, n6, n7⟩ := A
 unfold aAns aSps at hP
 simp only at *
 repeat (first | ((with_reducible refine AWp.ofC ?_ ?_); exact rfl; simp only [go_sem]) | ((with_reducible refine an ?_ ?_); exact Au))
 repeat ((with_reducible refine an ?_ ?_); exact As)
 refine (hS).val.use ?_; simp only [go_sem]
 repeat (first | ((with_reducible refine AWp.ofC ?_ ?_); exact rfl; simp only [go_sem]) | ((with_reducible refine an ?_ ?_); exact Au))
 repeat ((with_reducible refine an ?_ ?_); exact As)
 refine (hP).val.use ?_; simp only [go_sem]
 intro b9
 intros
 repeat (first | ((with_reducible refine AWp.ofC ?_ ?_); exact rfl; simp only [go_sem]) | ((with_reducible refine an ?_ ?_); exact Au))
 repeat ((with_reducible refine an ?_ ?_); exact As)
 refine (hD).val.use ?_; simp only [go_sem]
 intro b11
 intros
 repeat (first | ((with_reducible refine AWp.ofC ?_ ?_); exact rfl; simp only [go_sem]) | ((with_reducible refine an ?_ ?_); exact Au))
 repeat ((with_reducible refine an ?_ ?_); exact As)
 refine GCall.use (ab (leqF c n3)) (fun _ => ⟨At, (hLq).val.use ⟨rfl, rfl⟩⟩) ?_; simp only [go_sem]
 repeat ((with_reducible refine an ?_ ?_); exact As)
 have hcond : (n1 && !decide (S = leqF c n3) || !n1 && !S) = false := by
  cases n1 with
  | true => rw [(da1 rfl).1]; simp
  | false => rw [(da2 rfl).1]; simp
 simp only [hcond]
 refine ⟨fun h => ⟨h, fun h1 => ⟨h, h1⟩⟩, ?_⟩
 repeat (first | ((with_reducible refine AWp.ofC ?_ ?_); exact rfl; simp only [go_sem]) | ((with_reducible refine an ?_ ?_); exact Au))
 refine AWp.range' ts.length [13] [1, 2, 3, 7, 9, 11, 90, 91] (fun k vs L => ∃ v, vs = [v] ∧ AppSt 27 6 (((ts.take k).map (rwF c)).map aPd) v L ∧ ∀ t ∈ ts.take k, ¬ (rwRes t c).2 = 5) (by omega) rfl rfl rfl ⟨anil, rfl, .nil, by simp⟩ ?_ ?_
 ·rintro k vs L hk - ⟨v, rfl, hA, hno⟩
  have gt := getD_map (f := aPd) hk
  have hrw := hRW ts[k] (List.getElem_mem hk)
  have hrl := hRL k hk
  have hys : ((ts.take (k + 1)).map (rwF c)).map aPd = ((ts.take k).map (rwF c)).map aPd ++ [aPd (rwF c ts[k])] := by
   rw [List.take_add_one, List.getElem?_eq_getElem hk, List.map_append, List.map_append]; rfl
  have hyl : (((ts.take k).map (rwF c)).map aPd).length ≤ k := by rw [List.length_map, List.length_map, List.length_take]; omega
  have hno2 : ¬ (rwRes ts[k] c).2 = 5 → ∀ t ∈ ts.take (k + 1), ¬ (rwRes t c).2 = 5 := fun h t ht => by
   rw [List.take_add_one, List.getElem?_eq_getElem hk, List.mem_append] at ht
   rcases ht with ht | ht
   ·exact hno t ht
   ·simp only [Option.toList, List.mem_singleton] at ht
    subst ht; exact h
  generalize ((ts.take k).map (rwF c)).map aPd = ys at *
  generalize hRW2 : rwF c ts[k] = W at *
  generalize rwRes ts[k] c = RR at *
  generalize ts[k] = t at *
  obtain ⟨R, f⟩ := RR
  obtain ⟨tk, tn, tp, tq, tS, tl⟩ := t
  obtain ⟨rk, rn, rp, rq, rs, rl⟩ := R
  simp only [aPd_mk] at gt hrw
  rcases hrl with h | ⟨h, _⟩
  ·simp only at h
   subst h
   rcases hA.inv with ⟨e1, rfl, rfl⟩ | ⟨bq, cap, rfl, rfl⟩
   ·simp only [go_sem]
    repeat (first | ((with_reducible refine AWp.ofC ?_ ?_); exact rfl; simp only [go_sem, gt]) | ((with_reducible refine an ?_ ?_); exact Au))
    intros
    repeat (first | ((with_reducible refine AWp.ofC ?_ ?_); exact rfl; simp only [go_sem]) | ((with_reducible refine an ?_ ?_); exact Au))
    repeat ((with_reducible refine an ?_ ?_); exact As)
    refine (hrw).val.use ?_; simp only [go_sem]
    intros
    have h50 : ¬ (5 : Int) = 0 := by decide
    repeat (first | ((with_reducible refine AWp.ofC ?_ ?_); exact rfl; simp only [go_sem, h50]) | ((with_reducible refine an ?_ ?_); exact Au))
    refine ret_eq ?_; simp only [go_sem]
   ·simp only [go_sem]
    repeat (first | ((with_reducible refine AWp.ofC ?_ ?_); exact rfl; simp only [go_sem, gt]) | ((with_reducible refine an ?_ ?_); exact Au))
    intros
    repeat (first | ((with_reducible refine AWp.ofC ?_ ?_); exact rfl; simp only [go_sem]) | ((with_reducible refine an ?_ ?_); exact Au))
    repeat ((with_reducible refine an ?_ ?_); exact As)
    refine (hrw).val.use ?_; simp only [go_sem]
    intros
    have h50 : ¬ (5 : Int) = 0 := by decide
    repeat (first | ((with_reducible refine AWp.ofC ?_ ?_); exact rfl; simp only [go_sem, h50]) | ((with_reducible refine an ?_ ?_); exact Au))
    refine ret_eq ?_; simp only [go_sem]
  ·simp only [Prod.mk.injEq] at h
   obtain ⟨h, rfl⟩ := h
   rw [← h, aPd_mk] at hys
   have hno2 := hno2 (by simp)
   rcases hA.inv with ⟨e1, rfl, rfl⟩ | ⟨bq, cap, rfl, rfl⟩
   ·simp only [go_sem]
    repeat (first | ((with_reducible refine AWp.ofC ?_ ?_); exact rfl; simp only [go_sem, gt]) | ((with_reducible refine an ?_ ?_); exact Au))
    intros
    repeat (first | ((with_reducible refine AWp.ofC ?_ ?_); exact rfl; simp only [go_sem]) | ((with_reducible refine an ?_ ?_); exact Au))
    repeat ((with_reducible refine an ?_ ?_); exact As)
    refine (hrw).val.use ?_; simp only [go_sem]
    intros
    repeat (first | ((with_reducible refine AWp.ofC ?_ ?_); exact rfl; simp only [go_sem]) | ((with_reducible refine an ?_ ?_); exact Au))
    intro b' cap' _
    refine ⟨_, List.Sublist.refl _, _, rfl, ?_, hno2⟩
    rw [hys, e1]
    exact .row _ _ _
   ·simp only [go_sem]
    repeat (first | ((with_reducible refine AWp.ofC ?_ ?_); exact rfl; simp only [go_sem, gt]) | ((with_reducible refine an ?_ ?_); exact Au))
    intros
    repeat (first | ((with_reducible refine AWp.ofC ?_ ?_); exact rfl; simp only [go_sem]) | ((with_reducible refine an ?_ ?_); exact Au))
    repeat ((with_reducible refine an ?_ ?_); exact As)
    refine (hrw).val.use ?_; simp only [go_sem]
    intros
    repeat (first | ((with_reducible refine AWp.ofC ?_ ?_); exact rfl; simp only [go_sem]) | ((with_reducible refine an ?_ ?_); exact Au))
    intro b' cap' _
    refine ⟨_, List.Sublist.refl _, _, rfl, ?_, hno2⟩
    rw [hys]
    have := AppSt.row (t := 27) (k := 6) b' (ys ++ [.agg [ai rk, ai rn, ai rp, ai rq, astr rs, .sl 6 (rl.map aPd)]]) cap'
    simpa using this
 ·rintro vs L - ⟨v, rfl, hA, hno⟩
  rw [List.take_length] at hA hno
  obtain ⟨hl1, hl8⟩ := valid_len hv
  rcases hA.inv with ⟨e1, _, _⟩ | ⟨bq, cap, rfl, rfl⟩
  ·exfalso
   have := congrArg List.length e1
   simp at this
   rw [this] at htn
   simp at htn
   omega
  have hcn := hcon hno
  generalize ts.map (rwF c) = rest at *
  simp only [go_sem]
  refine AWp.view [true] [(13, .sl 6 (rest.map aPd))] (LVw.refl _) ?_ ?_
  ·intro q hq
   simp only [List.mem_singleton] at hq
   subst hq
   simp only [go_sem, pickT]
   exact Vw.ofLs (t := 27) (cap := cap) (if_pos rfl) (by rw [List.length_map])
  simp only [go_sem, pickF]
  unfold aPossR at hP2
  rcases hcn with h0 | h9
  ·rw [if_pos h0] at hP2
   generalize ansOf (elimOf U rest) = B at *
   obtain ⟨m0, m1, m2, m3, m4, m5, m6, m7⟩ := B
   unfold aAns aSps at hP2
   simp only at hP2 da2 da3 hSh
   cases S with
   | false =>
    cases n1 with
    | false => have := (da2 rfl).1; cases this
    | true =>
     repeat (first | ((with_reducible refine AWp.ofC ?_ ?_); exact rfl; simp only [go_sem]) | ((with_reducible refine an ?_ ?_); exact Au))
     repeat ((with_reducible refine an ?_ ?_); exact As)
     refine (hP2).val.use ?_; simp only [go_sem]
     intro b18
     intros
     repeat (first | ((with_reducible refine AWp.ofC ?_ ?_); exact rfl; simp only [go_sem]) | ((with_reducible refine an ?_ ?_); exact Au))
     refine ret_eq ?_; simp only [go_sem]
     rw [Bool.or_true]
   | true =>
    cases n1 with
    | false =>
     have hm1 := (da2 rfl).2
     subst hm1
     repeat (first | ((with_reducible refine AWp.ofC ?_ ?_); exact rfl; simp only [go_sem]) | ((with_reducible refine an ?_ ?_); exact Au))
     repeat ((with_reducible refine an ?_ ?_); exact As)
     refine (hP2).val.use ?_; simp only [go_sem]
     intro b18
     intros
     repeat (first | ((with_reducible refine AWp.ofC ?_ ?_); exact rfl; simp only [go_sem]) | ((with_reducible refine an ?_ ?_); exact Au))
     refine ret_eq ?_; simp only [go_sem]
    | true =>
     obtain ⟨hm1, hsr⟩ := da3 rfl rfl
     have hst := (da1 rfl).2
     subst hm1
     rw [hsr] at hSh
     have hSa := hSat n3
     rw [hst] at hSa
     repeat (first | ((with_reducible refine AWp.ofC ?_ ?_); exact rfl; simp only [go_sem]) | ((with_reducible refine an ?_ ?_); exact Au))
     repeat ((with_reducible refine an ?_ ?_); exact As)
     refine (hP2).val.use ?_; simp only [go_sem]
     intro b18
     intros
     repeat (first | ((with_reducible refine AWp.ofC ?_ ?_); exact rfl; simp only [go_sem]) | ((with_reducible refine an ?_ ?_); exact Au))
     repeat ((with_reducible refine an ?_ ?_); exact As)
     refine (hSh).val.use ?_; simp only [go_sem]
     repeat (first | ((with_reducible refine AWp.ofC ?_ ?_); exact rfl; simp only [go_sem]) | ((with_reducible refine an ?_ ?_); exact Au))
     repeat ((with_reducible refine an ?_ ?_); exact As)
     refine GCall.use (ab true) (fun _ => ⟨At, (hIE2).val.use ⟨rfl, rfl⟩⟩) ?_; simp only [go_sem]
     repeat ((with_reducible refine an ?_ ?_); exact As)
     repeat ((with_reducible refine an ?_ ?_); exact As)
     refine GCall.use (ab true) (fun _ => ⟨At, (hSa).val.use ⟨rfl, rfl⟩⟩) ?_; simp only [go_sem]
     repeat ((with_reducible refine an ?_ ?_); exact As)
     repeat (first | ((with_reducible refine AWp.ofC ?_ ?_); exact rfl; simp only [go_sem]) | ((with_reducible refine an ?_ ?_); exact Au))
     refine ret_eq ?_; simp only [go_sem]
  ·have h90 : ¬ (9 : Int) = 0 := by decide
   rw [if_neg (by rw [h9]; decide), h9] at hP2
   unfold aAns aSps noAns at hP2
   simp only at hP2
   repeat (first | ((with_reducible refine AWp.ofC ?_ ?_); exact rfl; simp only [go_sem]) | ((with_reducible refine an ?_ ?_); exact Au))
   repeat ((with_reducible refine an ?_ ?_); exact As)
   refine (hP2).val.use ?_; simp only [go_sem]
   intro b18
   intros
   repeat (first | ((with_reducible refine AWp.ofC ?_ ?_); exact rfl; simp only [go_sem, h90]) | ((with_reducible refine an ?_ ?_); exact Au))
   refine ret_eq ?_; simp only [go_sem]
end Go.AL
end
section
namespace Go.AL
open Go Go.RowKit Go.ChangeShapes Go.WideShapes Go.ChangeAt
theorem Fr.below {W W' : World} (h : Fr W (keysOf []) W') : Below W.heap.size W W' := ⟨h.os, h.tape, h.output, h.size, fun k hk => h.block k hk (by rintro ⟨x, hx, _⟩; cases hx)⟩
theorem LRel.empty (W : World) (hg : ∀ g x, GV g = some x → Rel W (fun b => b < W.heap.size) x (.pointer (some ⟨g, 0, none⟩))) : LRel W (fun b => b < W.heap.size) [] := ⟨fun _ h => h, (by intro x hx; cases hx), List.nodup_nil, (by intro x hx; cases hx), hg⟩
theorem PC.calls {P : Program} {f : FuncId} {args : List AV} {x : Value} (h : PC P f args (.v x)) {W : World} {vs : List Value} (hg : ∀ g x, GV g = some x → Rel W (fun b => b < W.heap.size) x (.pointer (some ⟨g, 0, none⟩))) (hr : Rels W (fun b => b < W.heap.size) args vs) :
  Calls P f vs.toArray W fun e W' => e = .returned x ∧ Below W.heap.size W W' :=
 ((h.2 0 W _ vs (LRel.empty W hg) hr).calls (fun _ d hd => by cases hd)).mono fun e W' ⟨v, r, L', A', he, ⟨hr, _⟩, hf, _, _, _, hv⟩ => by
  subst he hr
  cases hv
  exact ⟨rfl, hf.below⟩
def Rd {H : Type} (enc : TypeId × Value → H) (P : Program) (W : World) (t : TypeId) (k : Nat) {α : Type} (E : α → AV) (ok : α → Prop) : Prop :=
 ∀ fuel cs x, DataW.trod enc P W 0 (fun _ => true) true fuel t cs = some x → ∃ y, ok y ∧ elOk k (E y) ∧ cs.length = k ∧ ∀ (i : Nat) c u, (E y).cells[i]? = some c → cs[i]? = some u → Rel W (fun b => b < W.heap.size) c u
section
variable {H : Type} {enc : TypeId × Value → H} {P : Program} {W : World} {t : TypeId}
theorem Rd.int (ht : P.underlying t = some (.int .i64)) : Rd enc P W t 1 ai (fun n => (Lit.int .i64 n).wf = true) := by
 intro fuel cs x h
 obtain ⟨n, rfl, _, hw⟩ := DataW.trod_int ht h
 refine ⟨n, hw, ⟨rfl, rfl⟩, rfl, fun i c u h1 h2 => ?_⟩
 cases i with
 | zero => cases h1; cases h2; exact .v _
 | succ i => cases h2
theorem Rd.str (ht : P.underlying t = some .string) : Rd enc P W t 1 (fun s => .v (.string s)) (fun _ => True) := by
 intro fuel cs x h
 obtain ⟨s, rfl, _, hw⟩ := DataW.trod_string ht h
 refine ⟨s, trivial, ⟨rfl, rfl⟩, rfl, fun i c u h1 h2 => ?_⟩
 cases i with
 | zero => cases h1; cases h2; exact .v _
 | succ i => cases h2
theorem ofFin {α : Type} {len : Nat} {Q : Nat → α → Prop} (h : ∀ i, i < len → ∃ y, Q i y) : ∃ l : List α, l.length = len ∧ ∀ (i : Nat) (hi : i < l.length), Q i l[i] := by
 refine ⟨List.ofFn fun i : Fin len => Classical.choose (h i i.2), List.length_ofFn, fun i hi => ?_⟩
 rw [List.getElem_ofFn]
 exact Classical.choose_spec (h i (by simpa using hi))
theorem add_none (b off n : Nat) : (⟨b, off, none⟩ : Addr).add n = ⟨b, off + n, none⟩ := by
 unfold Addr.add; split
 ·rename_i h; rw [h]; rfl
 ·rfl
theorem Rd.slice {α : Type} {E : α → AV} {ok : α → Prop} {e : TypeId} {k : Nat} (ht : P.underlying t = some (.slice e)) (hk : P.cellsOf e = k) (h0 : 0 < k) (he : Rd enc P W e k E ok) :
  Rd enc P W t 1 (fun l : List α => .sl k (l.map E)) (fun l => l.length ≤ maxLen ∧ ∀ y ∈ l, ok y) := by
 intro fuel cs x h
 rcases DataW.trod_slice ht h with ⟨rfl, _⟩ | ⟨a, len, cap, elems, rest, n, _, rfl, _, _, hl, hm, hlen, hel, _, _⟩
 ·refine ⟨[], ⟨by simp, by simp⟩, ⟨rfl, rfl⟩, rfl, fun i c u h1 h2 => ?_⟩
  cases i with
  | zero => cases h1; cases h2; exact .sl0 k none 0 (by simp)
  | succ i => cases h2
 ·rw [hk] at hel
  obtain ⟨l, hll, hli⟩ := ofFin (len := len) (Q := fun i y => ∃ cs : List Value, ok y ∧ elOk k (E y) ∧ cs.length = k ∧ (∀ m, m < k → W.cell? ((a.add (i * k)).add m) = cs[m]?) ∧ ∀ (m : Nat) c u, (E y).cells[m]? = some c → cs[m]? = some u → Rel W (fun b => b < W.heap.size) c u) fun i hi => by
   have h1 := hel i hi
   rw [List.getElem?_eq_getElem (by omega), Option.bind_eq_some_iff] at h1
   obtain ⟨cs, hc, ht⟩ := h1
   obtain ⟨y, k1, k2, k3, k4⟩ := he _ _ _ ht
   exact ⟨y, cs, k1, k2, k3, (World.cells?_some hc).2.2, k4⟩
  refine ⟨l, ⟨by omega, fun y hy => ?_⟩, ⟨rfl, rfl⟩, rfl, fun i c u h1 h2 => ?_⟩
  ·obtain ⟨i, hi, rfl⟩ := List.getElem_of_mem hy
   obtain ⟨_, h, _⟩ := hli i (by omega); exact h
  ·cases i with
   | succ i => cases h2
   | zero =>
    cases h1; cases h2
    by_cases hz : len = 0
    ·subst hz
     rw [List.length_eq_zero_iff.1 hll]
     exact .sl0 k _ cap hm
    ·obtain ⟨b, off, spot⟩ := a
     obtain ⟨cs0, _, _, c3, c4, _⟩ := hli 0 (by omega)
     have hs : spot = none := by
      have := c4 0 h0
      have e0 : ∀ a : Addr, a.add 0 = a := fun _ => rfl
      rw [Nat.zero_mul, e0, e0, List.getElem?_eq_getElem (by omega)] at this
      cases spot with
      | none => rfl
      | some s =>
       exfalso
       unfold World.cell? at this
       split at this
       ·rw [if_pos (show (some s).isSome = true from rfl)] at this; cases this
       ·cases this
     subst hs
     have cell : ∀ (i : Nat) (hi : i < len) (m : Nat), m < k → ∃ u, W.cell? ⟨b, off + (i * k + m), none⟩ = some u ∧ ∀ c, (E (l[i]'(by omega))).cells[m]? = some c → Rel W (fun b => b < W.heap.size) c u := fun i hi m hm => by
      obtain ⟨cs, _, _, c3, c4, c5⟩ := hli i (by omega)
      have := c4 m hm
      rw [add_none, add_none, Nat.add_assoc, List.getElem?_eq_getElem (by omega)] at this
      exact ⟨_, this, fun c hc => c5 m c _ hc (List.getElem?_eq_getElem (by omega))⟩
     have hA : b < W.heap.size := by
      obtain ⟨u, hu, _⟩ := cell 0 (by omega) 0 h0
      unfold World.cell? at hu
      cases hb : W.heap[b]? with
      | none => simp [hb] at hu
      | some o => exact (Array.getElem?_eq_some_iff.1 hb).1
     have := Rel.sl (w := W) (A := fun b => b < W.heap.size) k (l.map E) b off cap (fun j => (W.cell? ⟨b, off + j, none⟩).getD undef) hA (by rw [List.length_map]; omega) hm
      (fun x hx => by
       obtain ⟨y, hy, rfl⟩ := List.mem_map.1 hx
       obtain ⟨i, hi, rfl⟩ := List.getElem_of_mem hy
       obtain ⟨cs, _, c2, _⟩ := hli i (by omega)
       exact c2)
      (fun j hj => by
       rw [List.length_map, hll] at hj
       have h1 : j / k < len := (Nat.div_lt_iff_lt_mul h0).2 hj
       obtain ⟨u, hu, _⟩ := cell (j / k) h1 (j % k) (Nat.mod_lt _ h0)
       have e : j / k * k + j % k = j := Nat.div_add_mod' j k
       rw [e] at hu
       rw [hu]; rfl)
      (fun i x j y hx hy => by
       rw [List.getElem?_map, Option.map_eq_some_iff] at hx
       obtain ⟨z, hz, rfl⟩ := hx
       obtain ⟨hi, rfl⟩ := List.getElem?_eq_some_iff.1 hz
       obtain ⟨cs, _, c2, _⟩ := hli i (by omega)
       have hj : j < k := by have := (List.getElem?_eq_some_iff.1 hy).1; have := c2.1; omega
       obtain ⟨u, hu, hr⟩ := cell i (by omega) j hj
       rw [hu]
       exact hr _ hy)
     rw [List.length_map, hll] at this
     exact this
theorem trodAll_stays {W' : World} (hl : laidOutB P = true) (hb : Below W.heap.size W W') : ∀ {ts : List TypeId} {vs : List Value} {ds : List (DataW H)} {ps : List MemPlace}, (∀ t ∈ ts, P.readableRec t = true ∧ t < P.types.size) → DataW.TrodAll enc P W 0 (fun _ => true) true ts vs ds ps →
  DataW.TrodAll enc P W' 0 (fun b => decide (b < W.heap.size)) true ts vs ds ps
 | [], _, _, _, _, h => by
  obtain ⟨rfl, rfl, rfl⟩ := trodAll_nil h
  rfl
 | t :: ts, _, _, _, ht, h => by
  have hlt := h.lt
  obtain ⟨v, vs1, d, ds1, a, b, rfl, rfl, rfl, h1, h2⟩ := trodAll_cons h
  exact ⟨a, b, Below.trod hl (ht t List.mem_cons_self).1 (ht t List.mem_cons_self).2 h1 hb (fun x hx => hlt x (List.mem_append_left _ hx)), trodAll_stays hl hb (fun t' ht' => ht t' (List.mem_cons_of_mem _ ht')) h2, rfl⟩
theorem post_true {f : Func} {s : ChangeSpec} {fresh handsOn : Bool} {W' : World} {args : Array Value} {ds : List (DataW H)} {before : List MemPlace} {tb : TypeId} (hl : laidOutB P = true)
  (hW : DataW.Whole enc P f.params.toList s.vars false W args.toList ds [] before) (hv : s.vars = []) (hs : s.fn H (ds ++ []) = { results := [.lit (.bool true)], args := ds })
  (hr : f.resultTypes = #[tb]) (ht : P.underlying tb = some .bool) (hp : ∀ t ∈ f.params.toList, P.readableRec t = true ∧ t < P.types.size) (hb : Below W.heap.size W W') :
  s.post enc P f false fresh handsOn false W args (.bool true) W' := by
 have hW0 := hW
 obtain ⟨p, q, hA, hV, rfl, _, _⟩ := hW0
 refine ⟨ds, [], p ++ q, [], p, [], hW, ?_, ?_, ?_, hb.frame _, fun h => by cases h⟩
 ·rw [hs, hr]
  exact ⟨[], [], ⟨1, by simp [DataW.trod, Value.cells, ht]⟩, rfl, rfl⟩
 ·rw [hs]
  exact trodAll_stays hl hb hp hA
 ·rw [hs, hv]; rfl
end
end Go.AL
end
section
namespace Go.AL
open Go Go.RowKit Go.ChangeShapes Go.WideShapes Go.ChangeAt
section
variable {H : Type} {enc : TypeId × Value → H} {P : Program} {W : World} {t : TypeId}
theorem Rd.map {α β : Type} {k : Nat} {E : α → AV} {E' : β → AV} {ok : α → Prop} {ok' : β → Prop} (f : α → β) (hE : ∀ y, E y = E' (f y)) (hok : ∀ y, ok y → ok' (f y)) (h : Rd enc P W t k E ok) : Rd enc P W t k E' ok' := by
 intro fuel cs x hx
 obtain ⟨y, k1, k2, k3, k4⟩ := h fuel cs x hx
 exact ⟨f y, hok y k1, by rw [← hE]; exact k2, k3, by rw [← hE]; exact k4⟩
def RdL (enc : TypeId × Value → H) (P : Program) (W : World) (ts : List TypeId) {α : Type} (E : α → List AV) (ok : α → Prop) : Prop :=
 ∀ (n : Nat) (cs : List Value) (xs : List (DataW H × List MemPlace)), xs.length = ts.length → cs.length = ts.length →
  (∀ (i : Nat) t, ts[i]? = some t → DataW.trod enc P W 0 (fun _ => true) true n t ((cs.drop i).take 1) = xs[i]?) →
  ∃ y, ok y ∧ (E y).length = ts.length ∧ (E y).all one = true ∧ ∀ (i : Nat) c u, (E y)[i]? = some c → cs[i]? = some u → Rel W (fun b => b < W.heap.size) c u
theorem RdL.nil : RdL enc P W [] (fun _ : Unit => []) (fun _ => True) := by
 intro n cs xs _ _ _
 exact ⟨(), trivial, rfl, rfl, fun i c u h => by simp at h⟩
theorem RdL.cons {α β : Type} {E : α → AV} {ok : α → Prop} {ts : List TypeId} {F : β → List AV} {ok' : β → Prop} (h : Rd enc P W t 1 E ok) (h1 : ∀ y, one (E y) = true ∧ (E y).cells = [E y]) (hs : RdL enc P W ts F ok') :
  RdL enc P W (t :: ts) (fun y : α × β => E y.1 :: F y.2) (fun y => ok y.1 ∧ ok' y.2) := by
 intro n cs xs hx hc hi
 match xs, cs, hx, hc with
 | x :: xs, u :: cs, hx, hc =>
  have h0 := hi 0 t rfl
  simp only [List.drop_zero, List.take_succ_cons, List.take_zero, List.getElem?_cons_zero] at h0
  obtain ⟨y, k1, _, _, k4⟩ := h _ _ _ h0
  obtain ⟨z, g1, g2, g3, g4⟩ := hs n cs xs (by simpa using hx) (by simpa using hc) fun i t' ht => by
   have := hi (i + 1) t' (by simpa using ht)
   simpa using this
  refine ⟨(y, z), ⟨k1, g1⟩, by simp [g2], by simp [g3, (h1 y).1], fun i c u' hcc hu => ?_⟩
  cases i with
  | zero => cases hcc; cases hu; exact k4 0 _ _ (by rw [(h1 y).2]; rfl) rfl
  | succ i => exact g4 i c u' (by simpa using hcc) (by simpa using hu)
theorem Rd.struct {fs : Array Field} {α : Type} {ts : List TypeId} {F : α → List AV} {ok : α → Prop} (ht : P.underlying t = some (.struct fs)) (hts : fs.toList.map (·.type) = ts) (hof : fs.toList.map (·.offset) = List.range ts.length) (hk : P.cellsOf t = ts.length)
  (hc : (ts.all fun t => P.cellsOf t == 1) = true) (h : RdL enc P W ts F ok) : Rd enc P W t ts.length (fun y => .agg (F y)) ok := by
 intro fuel cs x hx
 obtain ⟨xs, n, _, _, hl, hlen, hf⟩ := DataW.trod_struct ht hx
 have hfl : fs.size = ts.length := by rw [← hts]; simp
 obtain ⟨y, k1, k2, k3, k4⟩ := h n cs xs (by omega) (by omega) fun i t' ht' => by
  have hi : i < ts.length := (List.getElem?_eq_some_iff.1 ht').1
  have hg : fs[i]? = some fs[i] := Array.getElem?_eq_getElem (by omega)
  have e1 : (fs[i]).type = t' := by
   rw [← hts, List.getElem?_map, Array.getElem?_toList, hg] at ht'
   exact Option.some.inj ht'
  have e2 : (fs[i]).offset = i := by
   have : (fs.toList.map (·.offset))[i]? = some i := by rw [hof, List.getElem?_range hi]
   rw [List.getElem?_map, Array.getElem?_toList, hg] at this
   exact Option.some.inj this
  have := hf i _ hg
  have hct : P.cellsOf t' = 1 := by
   have := List.all_eq_true.1 hc _ (List.mem_of_getElem? ht')
   simpa using this
  rw [e1, e2, hct] at this
  exact this
 exact ⟨y, k1, ⟨k2, k3⟩, by omega, k4⟩
theorem Rd.agg {α : Type} {k : Nat} {E : α → AV} {F : α → List AV} {ok : α → Prop} (hE : ∀ y, E y = .agg (F y)) (h : Rd enc P W t k E ok) {v : Value} {d : DataW H} {ps : List MemPlace} (ha : ∃ us, v = .agg us)
  (hd : DataW.Trod enc P W 0 (fun _ => true) true t v d ps) : ∃ y, ok y ∧ Rel W (fun b => b < W.heap.size) (E y) v := by
 obtain ⟨us, rfl⟩ := ha
 obtain ⟨fuel, hf⟩ := hd
 obtain ⟨y, k1, k2, k3, k4⟩ := h _ _ _ hf
 refine ⟨y, k1, ?_⟩
 have e1 : (E y).cells = F y := by rw [hE]; rfl
 have e2 : (Value.agg us).cells.toList = us.toList := rfl
 have k5 := k2.1
 rw [e1] at k4 k5
 rw [e2] at k3 k4
 rw [hE]
 refine .agg _ _ ?_ fun i c u h1 h2 => k4 i c u h1 (by simpa using h2)
 rw [k5, ← k3]; simp
theorem okWide_agg {r : Go.Reach} {b : Nat} {fs : Array Field} {v : Value} (ht : P.underlying t = some (.struct fs)) (h : Value.okWide P W r b t v) : ∃ us, v = .agg us := by
 unfold Value.okWide at h
 rw [ht] at h
 obtain ⟨cs, h1, _⟩ := h
 exact ⟨cs, h1⟩
theorem Rd.one {α : Type} {E : α → AV} {ok : α → Prop} (h : Rd enc P W t 1 E ok) (h1 : ∀ y, (E y).cells = [E y]) {v : Value} {d : DataW H} {ps : List MemPlace} (hc : v.cells = #[v])
  (hd : DataW.Trod enc P W 0 (fun _ => true) true t v d ps) : ∃ y, ok y ∧ Rel W (fun b => b < W.heap.size) (E y) v := by
 obtain ⟨fuel, hf⟩ := hd
 rw [hc] at hf
 obtain ⟨y, k1, _, _, k4⟩ := h _ _ _ hf
 exact ⟨y, k1, k4 0 _ _ (by rw [h1]; rfl) rfl⟩
theorem okWide_cells {r : Go.Reach} {b : Nat} {e : TypeId} {v : Value} (ht : P.underlying t = some (.slice e)) (h : Value.okWide P W r b t v) : v.cells = #[v] := by
 cases v with
 | agg cs =>
  exfalso
  simp only [Value.okWide, ht, Cell.okWide, Cell.ok] at h
 | _ => rfl
end
end Go.AL
end
