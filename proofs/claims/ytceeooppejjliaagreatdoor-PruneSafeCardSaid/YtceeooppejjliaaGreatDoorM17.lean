/- Texts of this claim's proof: WPz, WRp, WCt, WPv, AlRed. No condition. -/
import Derived.Test.YtceeooppejjliaaGreatDoorM16
import Derived.Test.YtceeooppejjliaaGreatDoorM8
import Derived.Test.YtceeooppejjliaaGreatDoorM10
import Derived.Test.YtceeooppejjliaaGreatDoorM7
import Derived.Test.YtceeooppejjliaaGreatDoorM9
import Derived.Test.YtceeooppejjliaaGreatDoorM4
section
namespace Go.AL
open Go Go.RowKit
set_option maxRecDepth 4000
theorem cutL_cAt {n q : Nat} {c : Nat → Nat} (hq : q < n) : cAt (cutL n c) q = c q := by
 rw [cAt_nat (by rw [cutL_len]; exact hq)]; simp [cutL]
theorem rdy_iff {ps : List Pr} (hv : validF ps = true) {c : Nat → Nat} {p : Nat} (hp : p < ps.length) (hr : inRangeF ps (cutL ps.length c) = true) (hcl : closedF ps (cutL ps.length c) = true) :
  (inRangeF ps (cutL ps.length (updN c p (c p + 1))) = true ∧ closedF ps (cutL ps.length (updN c p (c p + 1))) = true) ↔ Rdy ps c p := by
 have h0 := (inRange_iff (cutL_len ps.length c)).1 hr
 constructor
 ·rintro ⟨h1, h2⟩
  have hlt := ((inRange_iff (cutL_len _ _)).1 h1 p hp).2
  rw [cutL_cAt hp, updN_self] at hlt
  have hlt : c p < ps[p].evs.length := by omega
  refine ⟨hp, by rw [nev_get hp]; exact hlt, fun hk => ?_⟩
  rw [evq_get hp hlt] at hk ⊢
  obtain ⟨hq, j, hj, e, _, _⟩ := recv_peer (valid_parts hv).2.2 hp hlt hk
  have hne := peer_ne hv hp hlt hk
  have h3 := closed_iff.1 h2 p hp (c p) hlt hk (by rw [cutL_cAt hp, updN_self]; omega)
  rw [e] at h3 ⊢
  simp only at h3 ⊢
  rw [cutL_cAt hq, updN_ne hne] at h3
  rw [Int.toNat_natCast]
  exact ⟨by omega, h3⟩
 ·rintro ⟨_, hlt, h3⟩
  rw [nev_get hp] at hlt
  refine ⟨(inRange_iff (cutL_len _ _)).2 fun q hq => ?_, closed_iff.2 fun q hq i hi hk hle => ?_⟩
  ·rw [cutL_cAt hq]
   by_cases e : q = p
   ·subst e; rw [updN_self]; omega
   ·rw [updN_ne e]
    have := h0 q hq
    rw [cutL_cAt hq] at this
    exact this
  ·obtain ⟨hq2, j, hj, e, _, _⟩ := recv_peer (valid_parts hv).2.2 hq hi hk
   rw [e]
   simp only
   rw [cutL_cAt hq] at hle
   rw [cutL_cAt hq2]
   have hge : c ps[q].evs[i].peer.toNat ≤ updN c p (c p + 1) ps[q].evs[i].peer.toNat := by
    unfold updN; split
    ·rename_i e; rw [e]; omega
    ·exact Nat.le_refl _
   by_cases ei : q = p ∧ i = c p
   ·obtain ⟨rfl, rfl⟩ := ei
    have := (h3 (by rw [evq_get hq hi]; exact hk)).2
    rw [evq_get hq hi, e] at this
    simp only [Int.toNat_natCast] at this
    omega
   ·have hic : (i : Int) + 1 ≤ cAt (cutL ps.length c) q := by
     rw [cutL_cAt hq]
     by_cases e2 : q = p
     ·subst e2
      rw [updN_self] at hle
      have : i ≠ c q := fun h => ei ⟨rfl, h⟩
      omega
     ·rw [updN_ne e2] at hle; exact hle
    have := closed_iff.1 hcl q hq i hi hk hic
    rw [e] at this
    simp only at this
    rw [cutL_cAt hq2] at this
    omega
end Go.AL
end
section
namespace Go.AL
open Go Go.RowKit
set_option maxRecDepth 4000
theorem ref13_sending (ps : List Pr) (hs : Sm ps) (hv : validF ps = true) (p : Nat) (hp : p < ps.length) (j : Nat) (hj : j < ps[p].evs.length) (hk : ps[p].evs[j].kind = 2) :
  PC Proofs.Tryz.prog 204 [aTr ps, ai p, ai ps[p].evs[j].msg] (ai ((j : Int) + 1)) := by
 have hl := hs.procs
 have hel := hs.evs _ (List.getElem_mem hp)
 have hgp := getD_map (f := aPr) hp
 have hu : ∀ i (hi : i < ps[p].evs.length), ps[p].evs[i].kind = 2 → ps[p].evs[i].msg = ps[p].evs[j].msg → i = j := fun i hi h1 h2 => by
  have e1 := valid_unique hv hp hi h1
  have e2 := valid_unique hv hp hj hk
  rw [h2, e2] at e1
  have := congrArg Prod.snd e1
  dsimp only at this; omega
 have hmj : ps[p].evs[j].msg = ps[p].evs[j].msg := rfl
 generalize hM : ps[p].evs[j].msg = M at hu ⊢
 refine PC.enter 38 [.tmp 6] [3] Proofs.Tryz.func204 rfl rfl rfl rfl rfl (by simp) (AWp.of ?_); simp only [go_sem]
 repeat (first | ((with_reducible refine AWp.ofC ?_ ?_); exact rfl; simp only [go_sem, hgp]) | ((with_reducible refine an ?_ ?_); exact Au))
 refine AWp.block (AWp.count 8 ps[p].evs.length [] [2, 7] (fun i vs L => L = [] ∧ i ≤ j) rfl rfl ⟨rfl, by omega⟩ ?_)
 rintro i vs L hi - ⟨rfl, hI⟩
 simp only [go_sem]
 repeat (first | ((with_reducible refine AWp.ofC ?_ ?_); exact rfl; simp only [go_sem]) | ((with_reducible refine an ?_ ?_); exact Au))
 refine ⟨fun h1 => ?_, fun h1 => ?_⟩
 ·have hie : i < ps[p].evs.length := by omega
  have hge := getD_map (f := aEv) hie
  repeat (first | ((with_reducible refine AWp.ofC ?_ ?_); exact rfl; simp only [go_sem, hge]) | ((with_reducible refine an ?_ ?_); exact Au))
  refine ⟨fun h2 h3 => ?_, fun h2 => ?_⟩
  ·repeat (first | ((with_reducible refine AWp.ofC ?_ ?_); exact rfl; simp only [go_sem]) | ((with_reducible refine an ?_ ?_); exact Au))
   refine ret_eq ?_; simp only [go_sem]
   rw [hu i hie h2 h3]
  ·repeat (first | ((with_reducible refine AWp.ofC ?_ ?_); exact rfl; simp only [go_sem]) | ((with_reducible refine an ?_ ?_); exact Au))
   refine ⟨_, List.Sublist.refl _, rfl, ?_⟩
   by_cases e : i = j
   ·subst e; exact absurd hM (by simpa [hk] using h2)
   ·omega
 ·exfalso; omega
theorem peer_nn {ps : List Pr} (hv : validF ps = true) {p : Nat} (hp : p < ps.length) {i : Nat} (hi : i < ps[p].evs.length) (hk : ps[p].evs[i].kind = 3) : 0 ≤ ps[p].evs[i].peer := by
 have h := (evF_parts hp hi).1 (evF_of_valid hv hp hi)
 have h := h.1
 unfold formedI at h
 rw [if_neg (by omega), if_pos (.inr hk)] at h
 simp only [Bool.and_eq_true] at h
 have h0 := h.1.1
 unfold inI at h0
 simp only [Bool.and_eq_true, decide_eq_true_eq] at h0
 omega
structure MidC (ps : List Pr) (c d : List Int) : Prop where
 len : d.length = ps.length
 ge : ∀ p, p < ps.length → cAt c p ≤ cAt d p
 le : ∀ p, p < ps.length → cAt d p ≤ cAt (closeF ps c) p
def evOk (ps : List Pr) (d : List Int) (p i : Nat) : Prop := (evq ps p i).kind = 3 → (i : Int) + 1 ≤ cAt d p → (sndr ps (evq ps p i).msg).2 ≤ cAt d (sndr ps (evq ps p i).msg).1
theorem ref13_Close (ps : List Pr) (hs : Sm ps) (hv : validF ps = true) (c : List Int) (hc : c.length = ps.length) (hr : inRangeF ps c = true) :
  PC Proofs.Tryz.prog 167 [aTr ps, aInts c] (aInts (closeF ps c)) := by
 obtain ⟨hl1, hl8⟩ := valid_len hv
 have hl := hs.procs
 obtain ⟨q1, q2, q3⟩ := closeF_ok hv hc hr
 have hcl := closeF_closed hv hc hr
 have hcr := (inRange_iff q1).1 q2
 have h0r := (inRange_iff hc).1 hr
 have hrng : ∀ d, MidC ps c d → inRangeF ps d = true := fun d hd => (inRange_iff hd.len).2 fun p hp => by
  have := hd.ge p hp; have := hd.le p hp; have := h0r p hp; have := hcr p hp; omega
 have hfin : ∀ d, MidC ps c d → (∀ p (hp : p < ps.length), ∀ i, i < ps[p].evs.length → evOk ps d p i) → d = closeF ps c := fun d hd h => by
  have hcd : closedF ps d = true := closed_iff.2 fun p hp i hi hk hle => by
   have := h p hp i hi
   unfold evOk at this
   rw [evq_get hp hi] at this
   exact this hk hle
  refine cut_ext (by rw [hd.len, q1]) fun p hp => ?_
  rw [hd.len] at hp
  have h1 := closeF_least hv hd.len hcd hc hr hd.ge p hp
  have h2 := hd.le p hp
  omega
 have hstep : ∀ d, MidC ps c d → ∀ p (hp : p < ps.length) i (hi : i < ps[p].evs.length), ps[p].evs[i].kind = 3 → (i : Int) + 1 ≤ cAt d p → ∀ q j : Nat, q < ps.length → sndr ps ps[p].evs[i].msg = ((q : Int), (j : Int) + 1) → cAt d q < (j : Int) + 1 → MidC ps c (d.set q ((j : Int) + 1)) := fun d hd p hp i hi hk hle q j hq hsn hlt => by
  have h5 := closed_iff.1 hcl p hp i hi hk (by have := hd.le p hp; omega)
  rw [hsn] at h5
  simp only at h5
  have e : ∀ r, r < ps.length → cAt (d.set q ((j : Int) + 1)) r = if q = r then (j : Int) + 1 else cAt d r := fun r hr => by
   rw [cAt_nat (by rw [List.length_set, hd.len]; exact hr), List.getElem_set]
   split
   ·rfl
   ·rw [cAt_nat (by rw [hd.len]; exact hr)]
  refine ⟨by rw [List.length_set]; exact hd.len, fun r hr => ?_, fun r hr => ?_⟩
  ·rw [e r hr]
   have := hd.ge r hr
   split
   ·rename_i e; subst e; omega
   ·exact this
  ·rw [e r hr]
   have := hd.le r hr
   split
   ·rename_i e; subst e; exact h5
   ·exact this
 have hm0 : MidC ps c c := ⟨hc, fun _ _ => Int.le_refl _, closeF_ge hv hc hr⟩
 generalize closeF ps c = R at *
 refine PC.enter 60 [.tmp 4] [2, 9] Proofs.Tryz.func167 rfl rfl rfl rfl rfl (by simp) (AWp.of ?_); simp only [go_sem]
 repeat (first | ((with_reducible refine AWp.ofC ?_ ?_); exact rfl; simp only [go_sem]) | ((with_reducible refine an ?_ ?_); exact Au))
 intro b0
 refine ⟨⟨by omega, by omega⟩, fun b cap hcap => ?_⟩
 repeat ((with_reducible refine an ?_ ?_); exact As)
 refine AWp.of ?_; simp only [go_sem]
 refine AWp.block (AWp.loopN [6] [2, 5] (fun m vs L => ∃ (d : List Int) (ch : Bool), vs = [ab ch] ∧ L = [(b, .row 3 1 (d.map ai) cap)] ∧ MidC ps c d ∧ (ch = false → d = R) ∧ m = (off ps ps.length - totC d) + (if ch = true then 1 else 0)) (off ps ps.length - totC c + 1) ?_ ?_)
 ·exact ⟨c, true, rfl, rfl, hm0, fun h => (by cases h), rfl⟩
 rintro m vs L - ⟨d, ch, rfl, rfl, hM, hdR, rfl⟩
 cases ch with
 | false =>
  have := hdR rfl
  subst this
  simp only [go_sem]
  repeat (first | ((with_reducible refine AWp.ofC ?_ ?_); exact rfl; simp only [go_sem]) | ((with_reducible refine an ?_ ?_); exact Au))
  refine ret_view [true] ?_; simp only [go_sem]
  exact Vw.ofLs (if_pos rfl) (by rw [List.length_map, hc, q1])
 | true =>
  have hdl := totC_le hM.len (hrng d hM)
  simp only [go_sem]
  repeat (first | ((with_reducible refine AWp.ofC ?_ ?_); exact rfl; simp only [go_sem]) | ((with_reducible refine an ?_ ?_); exact Au))
  refine AWp.block (AWp.count 7 c.length [6] [2, 5] (fun p vs L => ∃ (e : List Int) (ch : Bool), vs = [ab ch] ∧ L = [(b, .row 3 1 (e.map ai) cap)] ∧ MidC ps c e ∧ (ch = false → e = d ∧ ∀ q (hq : q < ps.length), q < p → ∀ i, i < ps[q].evs.length → evOk ps d q i) ∧ (ch = true → totC d < totC e)) rfl rfl ⟨d, false, rfl, rfl, hM, fun _ => ⟨rfl, fun q _ h => by omega⟩, fun h => by cases h⟩ ?_)
  rintro p vs L hp - ⟨e, ch, rfl, rfl, hE, hc0, hc1⟩
  simp only [go_sem]
  repeat (first | ((with_reducible refine AWp.ofC ?_ ?_); exact rfl; simp only [go_sem]) | ((with_reducible refine an ?_ ?_); exact Au))
  refine ⟨fun h1 => ?_, fun h1 => ?_⟩
  ·have hpp : p < ps.length := by omega
   have hgp := getD_map (f := aPr) hpp
   have hel := hs.evs _ (List.getElem_mem hpp)
   repeat (first | ((with_reducible refine AWp.ofC ?_ ?_); exact rfl; simp only [go_sem]) | ((with_reducible refine an ?_ ?_); exact Au))
   refine AWp.block (AWp.count 8 ps[p].evs.length [6] [2, 5, 7] (fun k vs L => ∃ (e : List Int) (ch : Bool), vs = [ab ch] ∧ L = [(b, .row 3 1 (e.map ai) cap)] ∧ MidC ps c e ∧ (ch = false → e = d ∧ (∀ q (hq : q < ps.length), q < p → ∀ i, i < ps[q].evs.length → evOk ps d q i) ∧ ∀ i, i < k → evOk ps d p i) ∧ (ch = true → totC d < totC e)) rfl rfl ⟨e, ch, rfl, rfl, hE, fun h => ⟨(hc0 h).1, (hc0 h).2, fun i h => by omega⟩, hc1⟩ ?_)
   rintro k vs L hk - ⟨e, ch, rfl, rfl, hE, hc0, hc1⟩
   have hepl : p < e.length := by rw [hE.len]; exact hpp
   have hgc := getD_map (f := ai) hepl
   have hce : cAt e p = e[p] := cAt_nat hepl
   have her := (inRange_iff hE.len).1 (hrng e hE) p hpp
   simp only [go_sem]
   repeat (first | ((with_reducible refine AWp.ofC ?_ ?_); exact rfl; simp only [go_sem, hgc]) | ((with_reducible refine an ?_ ?_); exact Au))
   refine ⟨fun h2 => ?_, fun h2 => ?_⟩
   ·have hke : k < ps[p].evs.length := by omega
    have hge := getD_map (f := aEv) hke
    have hevq := evq_get hpp hke
    have hev : evOk ps e p k → ch = false → ∀ i, i < k + 1 → evOk ps d p i := fun h hch i hi => by
     obtain ⟨rfl, _, h3⟩ := hc0 hch
     by_cases ei : i = k
     ·subst ei; exact h
     ·exact h3 i (by omega)
    by_cases hk3 : ps[p].evs[k].kind = 3
    ·obtain ⟨hq, j, hj, e5, k2, e6⟩ := recv_peer (valid_parts hv).2.2 hpp hke hk3
     have hpr : ps[p].evs[k].peer = ((ps[p].evs[k].peer.toNat : Nat) : Int) := by
      have := peer_nn hv hpp hke hk3; omega
     have hsd := ref13_sending ps hs hv _ hq j hj k2
     rw [e6] at hsd
     have hst := hstep e hE p hpp k hke hk3 (by omega) _ j hq e5
     generalize ps[p].evs[k].peer.toNat = q at *
     have hql : q < e.length := by rw [hE.len]; exact hq
     have hgq := getD_map (f := ai) hql
     have hcq : cAt e q = e[q] := cAt_nat hql
     have hqc : q < c.length := by omega
     have hjl := hs.evs _ (List.getElem_mem hq)
     have htot := totC_set (c := e) (q := q) (x := (j : Int) + 1) hql
     have heq := (inRange_iff hE.len).1 (hrng e hE) q hq
     repeat (first | ((with_reducible refine AWp.ofC ?_ ?_); exact rfl; simp only [go_sem, hgp, hge]) | ((with_reducible refine an ?_ ?_); exact Au))
     intro b9
     intros
     repeat (first | ((with_reducible refine AWp.ofC ?_ ?_); exact rfl; simp only [go_sem, hk3, hpr]) | ((with_reducible refine an ?_ ?_); exact Au))
     repeat ((with_reducible refine an ?_ ?_); exact As)
     refine (hsd).val.use ?_; simp only [go_sem]
     repeat (first | ((with_reducible refine AWp.ofC ?_ ?_); exact rfl; simp only [go_sem, hgq]) | ((with_reducible refine an ?_ ?_); exact Au))
     refine ⟨fun h5 => ?_, fun h5 => ?_⟩
     ·repeat (first | ((with_reducible refine AWp.ofC ?_ ?_); exact rfl; simp only [go_sem]) | ((with_reducible refine an ?_ ?_); exact Au))
      rw [← List.map_set]
      have hlt : totC e < totC (e.set q ((j : Int) + 1)) := by
       have h3 : ((j : Int) + 1).toNat = j + 1 := by omega
       rw [h3] at htot
       omega
      refine ⟨_, List.Sublist.refl _, e.set q ((j : Int) + 1), true, rfl, rfl, hst (by omega), (fun h => by cases h), fun _ => ?_⟩
      cases ch with
      | true => have := hc1 rfl; omega
      | false => obtain ⟨rfl, _⟩ := hc0 rfl; exact hlt
     ·repeat (first | ((with_reducible refine AWp.ofC ?_ ?_); exact rfl; simp only [go_sem]) | ((with_reducible refine an ?_ ?_); exact Au))
      refine ⟨_, List.Sublist.refl _, e, ch, rfl, rfl, hE, fun h => ⟨(hc0 h).1, (hc0 h).2.1, hev ?_ h⟩, hc1⟩
      intro _ _
      rw [hevq, e5]
      simp only
      omega
    ·repeat (first | ((with_reducible refine AWp.ofC ?_ ?_); exact rfl; simp only [go_sem, hgp, hge]) | ((with_reducible refine an ?_ ?_); exact Au))
     intro b9
     intros
     repeat (first | ((with_reducible refine AWp.ofC ?_ ?_); exact rfl; simp only [go_sem, hk3]) | ((with_reducible refine an ?_ ?_); exact Au))
     refine ⟨_, List.Sublist.refl _, e, ch, rfl, rfl, hE, fun h => ⟨(hc0 h).1, (hc0 h).2.1, hev ?_ h⟩, hc1⟩
     intro h _
     rw [hevq] at h
     exact absurd h hk3
   ·repeat (first | ((with_reducible refine AWp.ofC ?_ ?_); exact rfl; simp only [go_sem]) | ((with_reducible refine an ?_ ?_); exact Au))
    refine ⟨_, List.Sublist.refl _, e, ch, rfl, rfl, hE, fun h => ⟨(hc0 h).1, fun q hq hqp i hi => ?_⟩, hc1⟩
    obtain ⟨rfl, h3, h4⟩ := hc0 h
    by_cases eq : q = p
    ·subst eq
     by_cases hik : i < k
     ·exact h4 i hik
     ·intro _ hle
      omega
    ·exact h3 q hq (by omega) i hi
  ·repeat (first | ((with_reducible refine AWp.ofC ?_ ?_); exact rfl; simp only [go_sem]) | ((with_reducible refine an ?_ ?_); exact Au))
   refine ⟨_, List.Sublist.refl _, _, ?_, e, ch, rfl, rfl, hE, fun h => ?_, rfl⟩
   ·have hel := totC_le hE.len (hrng e hE)
    cases ch with
    | true => have := hc1 rfl; simp only [if_true]; omega
    | false => obtain ⟨rfl, _⟩ := hc0 rfl; simp only [Bool.false_eq_true, if_false]; omega
   ·obtain ⟨rfl, h3⟩ := hc0 h
    exact hfin _ hE fun q hq i hi => h3 q hq (by omega) i hi
theorem ref13_Past (ps : List Pr) (hs : Sm ps) (hv : validF ps = true) (p : Nat) (hp : p < ps.length) (k : Nat) (hk : k ≤ ps[p].evs.length) :
  PC Proofs.Tryz.prog 111 [aTr ps, aEid (p, k)] (aInts (closeF ps (stC ps.length p k))) := by
 have hl := hs.procs
 have hel := hs.evs _ (List.getElem_mem hp)
 obtain ⟨hsl, hsr⟩ := stC_ok (k := (k : Int)) hp (by omega) (by omega)
 have h := ref13_Close ps hs hv _ hsl hsr
 have hC : (stC ps.length p (k : Int)).map ai = (List.replicate ps.length (ai 0)).set p (ai k) := by unfold stC; rw [List.map_set, List.map_replicate]
 have hg0 : (List.replicate ps.length (ai 0)).getD p .any = ai 0 := by rw [List.getD_eq_getElem?_getD, List.getElem?_replicate, if_pos hp]; rfl
 generalize closeF ps (stC ps.length p (k : Int)) = R at *
 refine PC.enter 19 [.tmp 4] [2, 3] Proofs.Tryz.func111 rfl rfl rfl rfl rfl (by simp) (AWp.of ?_); simp only [go_sem]
 repeat (first | ((with_reducible refine AWp.ofC ?_ ?_); exact rfl; simp only [go_sem]) | ((with_reducible refine an ?_ ?_); exact Au))
 repeat ((with_reducible refine an ?_ ?_); exact As)
 intro b5
 repeat ((with_reducible refine an ?_ ?_); exact As)
 refine AWp.of ?_; simp only [go_sem, hg0, List.length_replicate]
 repeat ((with_reducible refine an ?_ ?_); exact As)
 rw [← hC]
 refine AWp.view [true] [(5, aInts (stC ps.length p k))] (LVw.refl _) (fun x hx => ?_) ?_
 ·simp only [List.mem_singleton] at hx
  subst hx
  simp only [go_sem, pickT]
  exact Vw.ofLs (t := 3) (cap := ps.length) (by simp only [lk, if_true]) (by rw [List.length_map, hsl])
 ·simp only [go_sem, pickF]
  repeat (first | ((with_reducible refine AWp.ofC ?_ ?_); exact rfl; simp only [go_sem]) | ((with_reducible refine an ?_ ?_); exact Au))
  repeat ((with_reducible refine an ?_ ?_); exact As)
  refine (h).val.use ?_; simp only [go_sem]
  repeat (first | ((with_reducible refine AWp.ofC ?_ ?_); exact rfl; simp only [go_sem]) | ((with_reducible refine an ?_ ?_); exact Au))
  refine ret_eq ?_; simp only [go_sem]
end Go.AL
end
section
namespace Go.AL
open Go Go.RowKit
set_option maxRecDepth 4000
open Classical in
noncomputable def anc (ps : List Pr) (x : Eid) : Nat := (evIds ps).countP fun e => decide (Reach ps e.1 x)
def isF (ps : List Pr) (c : List Int) : Bool := (decide (c.length = ps.length) && inRangeF ps c) && closedF ps c
theorem isF_iff {ps : List Pr} {c : List Int} : isF ps c = true ↔ c.length = ps.length ∧ inRangeF ps c = true ∧ closedF ps c = true := by
 unfold isF
 rw [Bool.and_eq_true, Bool.and_eq_true, decide_eq_true_eq, and_assoc]
def stpC (c : List Int) (p : Nat) : List Int := c.set p (cAt c p + 1)
def nx1 (ps : List Pr) (c : List Int) (p : Nat) : List (List Int) := if cAt c p < nev ps p ∧ isF ps (stpC c p) = true then [stpC c p] else []
def nextT (ps : List Pr) (c : List Int) (k : Nat) : List (List Int) := (List.range k).flatMap (nx1 ps c)
def nextL (ps : List Pr) (c : List Int) : List (List Int) := nextT ps c c.length
def lexF : List Int → List Int → Bool
 | a :: x, b :: y => if a = b then lexF x y else decide (a < b)
 | _, _ => false
def befF (a b : List Int) : Bool := if a.sum = b.sum then lexF a b else decide (a.sum < b.sum)
def insF (l : List (List Int)) (c : List Int) : List (List Int) := if (l.dropWhile fun x => befF x c).head? = some c then l else (l.takeWhile fun x => befF x c) ++ c :: l.dropWhile fun x => befF x c
def insL (acc l : List (List Int)) : List (List Int) := l.foldl insF acc
def moreT (ps : List Pr) (lv : List (List Int)) : List (List Int) := lv.foldl (fun acc c => insL acc (nextL ps c)) []
def levF (ps : List Pr) : Nat → List (List Int)
 | 0 => [List.replicate ps.length 0]
 | k + 1 => moreT ps (levF ps k)
theorem isF_zero {ps : List Pr} : isF ps (List.replicate ps.length 0) = true := by
 have e : ∀ q : Int, cAt (List.replicate ps.length 0) q = 0 := fun q => by
  unfold cAt
  rw [List.getD_eq_getElem?_getD, List.getElem?_replicate]
  split <;> rfl
 have hl : (List.replicate ps.length (0 : Int)).length = ps.length := List.length_replicate
 refine isF_iff.2 ⟨hl, (inRange_iff hl).2 fun p hp => ?_, closed_iff.2 fun p hp i hi hk hle => ?_⟩
 ·rw [e]; omega
 ·rw [e] at hle; omega
def cumF (ps : List Pr) (k : Nat) : List (List Int) := (List.range k).flatMap (levF ps)
def cutsF (ps : List Pr) : List (List Int) := cumF ps (off ps ps.length + 1)
end Go.AL
end
section
namespace Go.AL
open Go Go.RowKit
set_option maxRecDepth 4000
theorem cutL_dnA (n : Nat) (c : Nat → Nat) : (cutL n c).map ai = dnA n c := by unfold cutL dnA; rw [List.map_map]; rfl
theorem Vws.snoc {L : AHeap} {x y : AV} (h : Vw L x y) : ∀ xs : List AV, Vws L (xs ++ [x]) (xs ++ [y])
 | [] => Vws.cons h .nil
 | a :: xs => Vws.cons (.refl a) (Vws.snoc h xs)
def zRows (n k : Nat) : List AV := List.replicate k (.sl 1 (List.replicate n (ai 0)))
theorem zRows_len (n k : Nat) : (zRows n k).length = k := List.length_replicate
theorem zRows_succ (n k : Nat) : zRows n (k + 1) = zRows n k ++ [.sl 1 (List.replicate n (ai 0))] := List.replicate_succ'
theorem zRows_kn (ps : List Pr) (order : List Int) : zRows ps.length ps.length = knA ps.length (knQ ps order 0) := by
 unfold zRows knA
 apply List.ext_getElem (by simp)
 intro i h1 h2
 simp [knQ, doneF_zero]
set_option maxHeartbeats 1000000 in
theorem ref49_Peak (ps : List Pr) (hs : Sm ps) (order : List Int) (ho : order.length ≤ 1000000) : PC Proofs.Tryz.prog 51 [aTr ps, aInts order] (aPeak ps order) := by
 have hvd := ref12_Valid ps hs
 have hps := hs.procs
 cases hv : validF ps with
 | false =>
  have e : aPeak ps order = .tup [ai 0, ai 1] := by unfold aPeak; rw [if_pos hv]
  rw [e]
  rw [hv] at hvd
  refine PC.enter 98 [.tmp 4, .tmp 5] [2, 50] Proofs.Tryz.func51 rfl rfl rfl rfl rfl (by simp) (AWp.of ?_); simp only [go_sem]
  repeat (first | ((with_reducible refine AWp.ofC ?_ ?_); exact rfl; simp only [go_sem]) | ((with_reducible refine an ?_ ?_); exact Au))
  repeat ((with_reducible refine an ?_ ?_); exact As)
  refine (hvd).val.use ?_; simp only [go_sem]
  repeat (first | ((with_reducible refine AWp.ofC ?_ ?_); exact rfl; simp only [go_sem]) | ((with_reducible refine an ?_ ?_); exact Au))
  refine ret_eq ?_; simp only [go_sem]
 | true =>
  obtain ⟨hl1, hl8⟩ := valid_len hv
  obtain ⟨hG, hmx⟩ := stampF_gen hs
  rw [hv] at hvd
  refine PC.enter 98 [.tmp 4, .tmp 5] [2, 50] Proofs.Tryz.func51 rfl rfl rfl rfl rfl (by simp) (AWp.of ?_); simp only [go_sem]
  repeat (first | ((with_reducible refine AWp.ofC ?_ ?_); exact rfl; simp only [go_sem]) | ((with_reducible refine an ?_ ?_); exact Au))
  repeat ((with_reducible refine an ?_ ?_); exact As)
  refine (hvd).val.use ?_; simp only [go_sem]
  repeat (first | ((with_reducible refine AWp.ofC ?_ ?_); exact rfl; simp only [go_sem]) | ((with_reducible refine an ?_ ?_); exact Au))
  refine AWp.block (AWp.count 7 order.length [] [1, 2, 6] (fun k vs L => L = [] ∧ ∀ j (hj : j < order.length), j < k → badP ps.length order[j] = false) rfl rfl ⟨rfl, fun j hj h => by omega⟩ ?_)
  rintro k vs L hk - ⟨rfl, hJ⟩
  simp only [go_sem]
  repeat (first | ((with_reducible refine AWp.ofC ?_ ?_); exact rfl; simp only [go_sem]) | ((with_reducible refine an ?_ ?_); exact Au))
  refine ⟨fun h1 => ?_, fun h1 => ?_⟩
  ·have hko : k < order.length := by omega
   have hg := getD_map (f := ai) hko
   repeat (first | ((with_reducible refine AWp.ofC ?_ ?_); exact rfl; simp only [go_sem, hg]) | ((with_reducible refine an ?_ ?_); exact Au))
   refine ⟨fun h2 => ?_, fun h2 => ?_⟩
   ·have hb : order.any (badP ps.length) = true := List.any_eq_true.2 ⟨_, List.getElem_mem hko, by unfold badP; simp; omega⟩
    have e : aPeak ps order = .tup [ai 0, ai 2] := by unfold aPeak; rw [if_neg (by rw [hv]; decide), if_pos hb]
    rw [e]
    repeat (first | ((with_reducible refine AWp.ofC ?_ ?_); exact rfl; simp only [go_sem]) | ((with_reducible refine an ?_ ?_); exact Au))
    refine ret_eq ?_; simp only [go_sem]
   ·intro h3
    repeat (first | ((with_reducible refine AWp.ofC ?_ ?_); exact rfl; simp only [go_sem]) | ((with_reducible refine an ?_ ?_); exact Au))
    refine ⟨_, List.Sublist.refl _, rfl, fun j hj hjk => ?_⟩
    by_cases e : j = k
    ·subst e; unfold badP; simp; omega
    ·exact hJ j hj (by omega)
  ·have hnb : order.any (badP ps.length) = false := List.any_eq_false.2 fun x hx => by
    obtain ⟨j, hj, rfl⟩ := List.getElem_of_mem hx
    rw [hJ j hj (by omega)]; decide
   have hob : ∀ j, j < order.length → 0 ≤ order.getD j 0 ∧ order.getD j 0 < ps.length := fun j hj => by
    have := hJ j hj (by omega)
    have e : order.getD j 0 = order[j] := by simp [hj]
    rw [e]
    simp [badP] at this
    omega
   have hD0 : List.replicate ps.length (ai 0) = dnA ps.length (doneF order 0) := by
    unfold dnA; apply List.ext_getElem (by simp); intro i h1 h2; simp [doneF_zero]
   repeat (first | ((with_reducible refine AWp.ofC ?_ ?_); exact rfl; simp only [go_sem]) | ((with_reducible refine an ?_ ?_); exact Au))
   intro bc
   repeat (first | ((with_reducible refine AWp.ofC ?_ ?_); exact rfl; simp only [go_sem]) | ((with_reducible refine an ?_ ?_); exact Au))
   refine AWp.block (AWp.count 10 ps.length [9] [1, 2, 6, 8] (fun k vs L => ∃ v Lq, vs = [v] ∧ L = Lq ++ [(bc, .row 3 1 (List.replicate ps.length (ai 0)) ps.length)] ∧ AppSt 42 1 (zRows ps.length k) v Lq ∧ ∀ x ∈ Lq, x.1 ≠ bc) rfl rfl ⟨anil, [], rfl, rfl, .nil, by simp⟩ ?_)
   rintro k vs L hk - ⟨v, Lq, rfl, rfl, hA, hq⟩
   have hyl := zRows_len ps.length k
   have hys := zRows_succ ps.length k
   by_cases hkn : k < ps.length
   ·have hki : (k : Int) < ps.length := by omega
    generalize zRows ps.length k = ys at *
    rcases hA.inv with ⟨e1, rfl, rfl⟩ | ⟨bl, cap, rfl, rfl⟩
    ·simp only [go_sem, List.nil_append]
     repeat ((with_reducible refine an ?_ ?_); exact As)
     refine AWp.of ?_; simp only [go_sem, hki]
     repeat ((with_reducible refine an ?_ ?_); exact As)
     refine AWp.of ?_; simp only [go_sem]
     refine AWp.postV ?_
     repeat (first | ((with_reducible refine AWp.ofC ?_ ?_); exact rfl; simp only [go_sem]) | ((with_reducible refine an ?_ ?_); exact Au))
     intro bn g1 b' cap' g2 g3 _
     have m1 : ¬ b' = bn := by omega
     have m2 : ¬ bn = b' := by omega
     repeat (first | ((with_reducible refine AWp.ofC ?_ ?_); exact rfl; simp only [go_sem]) | ((with_reducible refine an ?_ ?_); exact Au))
     refine ⟨[(bn, .row 3 1 (List.replicate ps.length (ai 0)) ps.length)], [(b', .row 42 1 [.ls bn 1 0 ps.length ps.length] cap'), (bc, .row 3 1 (List.replicate ps.length (ai 0)) ps.length)], [(b', .row 42 1 [.sl 1 (List.replicate ps.length (ai 0))] cap'), (bc, .row 3 1 (List.replicate ps.length (ai 0)) ps.length)], ?_, .row (Vws.cons (Vw.ofLs (if_pos rfl) (by rw [List.length_replicate])) .nil) (.same .nil), ?_⟩
     ·exact .swap _ _ _
     ·refine ⟨by omega, _, List.Sublist.refl _, _, [(b', .row 42 1 [.sl 1 (List.replicate ps.length (ai 0))] cap')], rfl, rfl, ?_, fun x hx => ?_⟩
      ·rw [hys, e1]
       exact .row _ _ _
      ·simp only [List.mem_singleton] at hx
       subst hx
       show ¬ b' = bc
       omega
    ·have nq : ¬ bl = bc := hq (bl, .row 42 1 ys cap) (by simp)
     have nq' : ¬ bc = bl := fun e => nq e.symm
     simp only [go_sem, List.cons_append, List.nil_append]
     repeat ((with_reducible refine an ?_ ?_); exact As)
     refine AWp.of ?_; simp only [go_sem, hki]
     repeat ((with_reducible refine an ?_ ?_); exact As)
     refine AWp.of ?_; simp only [go_sem]
     refine AWp.postV ?_
     repeat (first | ((with_reducible refine AWp.ofC ?_ ?_); exact rfl; simp only [go_sem, nq]) | ((with_reducible refine an ?_ ?_); exact Au))
     intro bn g1 g2
     have m1 : ¬ bl = bn := by omega
     have m2 : ¬ bn = bl := by omega
     simp only [go_sem, m1]
     repeat ((with_reducible refine an ?_ ?_); exact As)
     intro b' cap' g3 g4 _
     repeat (first | ((with_reducible refine AWp.ofC ?_ ?_); exact rfl; simp only [go_sem]) | ((with_reducible refine an ?_ ?_); exact Au))
     have hvb : Vw [(bn, .row 3 1 (List.replicate ps.length (ai 0)) ps.length)] (.ls bn 1 0 ps.length ps.length) (.sl 1 (List.replicate ps.length (ai 0))) := Vw.ofLs (if_pos rfl) (by rw [List.length_replicate])
     refine ⟨[(bn, .row 3 1 (List.replicate ps.length (ai 0)) ps.length)], [(b', .row 42 1 (ys ++ [.ls bn 1 0 ps.length ps.length]) cap'), (bc, .row 3 1 (List.replicate ps.length (ai 0)) ps.length)], [(b', .row 42 1 (ys ++ [.sl 1 (List.replicate ps.length (ai 0))]) cap'), (bc, .row 3 1 (List.replicate ps.length (ai 0)) ps.length)], ?_, .row (Vws.snoc hvb ys) (.same .nil), ?_⟩
     ·exact .swap _ _ _
     ·refine ⟨by omega, _, List.Sublist.refl _, _, [(b', .row 42 1 (ys ++ [.sl 1 (List.replicate ps.length (ai 0))]) cap')], rfl, rfl, ?_, fun x hx => ?_⟩
      ·rw [hys]
       have := AppSt.row (t := 42) (k := 1) b' (ys ++ [.sl 1 (List.replicate ps.length (ai 0))]) cap'
       simpa using this
      ·simp only [List.mem_singleton] at hx
       subst hx
       exact fun e => g4 e.symm
   ·have hki : ¬ (k : Int) < ps.length := by omega
    have hke : k = ps.length := by omega
    subst hke
    rcases hA.inv with ⟨e1, _, _⟩ | ⟨bk, cap, rfl, rfl⟩
    ·rw [e1] at hyl
     simp at hyl; omega
    have n1 : ¬ bk = bc := hq (bk, .row 42 1 (zRows ps.length ps.length) cap) (by simp)
    have n2 : ¬ bc = bk := fun e => n1 e.symm
    rw [hyl, zRows_kn ps order, hD0]
    simp only [go_sem, List.cons_append, List.nil_append]
    repeat (first | ((with_reducible refine AWp.ofC ?_ ?_); exact rfl; simp only [go_sem, hki]) | ((with_reducible refine an ?_ ?_); exact Au))
    refine AWp.block (AWp.count 12 order.length [11] [1, 2, 8, 9] (fun k vs L => vs = [ai (peakF ps order k)] ∧ RunOk ps order k ∧ isF ps (cutL ps.length (doneF order k)) = true ∧ L = [(bk, .row 42 1 (knA ps.length (knQ ps order k)) cap), (bc, .row 3 1 (dnA ps.length (doneF order k)) ps.length)]) rfl rfl ⟨rfl, fun j hj => by omega, ?_, rfl⟩ ?_)
    ·have e : cutL ps.length (doneF order 0) = List.replicate ps.length 0 := by
      unfold cutL
      apply List.ext_getElem (by simp)
      intro i h1 h2
      simp [doneF_zero]
     rw [e]; exact isF_zero
    rintro k vs L hk - ⟨rfl, hR, hF, rfl⟩
    by_cases hko : k < order.length
    ·have hki2 : (k : Int) < order.length := by omega
     have hgo : (order.map ai).getD k .any = ai (order.getD k 0) := by rw [getD_map hko]; simp [hko]
     obtain ⟨o1, o2⟩ := hob k hko
     have hdk0 : ∀ k, k ≤ order.length → RunOk ps order k → ∀ q, doneF order k q ≤ 1000000 := fun k hk hR q => by
      have := run_le hmx hk hR q
      have h2 := hG.le_nev q
      by_cases hq : q < ps.length
      ·rw [nev_get hq] at h2
       have := hs.evs _ (List.getElem_mem hq); omega
      ·rw [hG.out hq] at this; simp at this; omega
     have hok : RunOk ps order (k + 1) ↔ Rdy ps (doneF order k) (order.getD k 0).toNat := ⟨fun h => (h k (by omega)).2, fun h j hj => by
      by_cases e : j = k
      ·subst e; exact ⟨o1, h⟩
      ·exact hR j (by omega)⟩
     have hds := fun q => doneF_succ (order := order) hko o1 q
     obtain ⟨p, hpe⟩ : ∃ p : Nat, order.getD k 0 = (p : Int) := ⟨(order.getD k 0).toNat, by omega⟩
     rw [hpe] at hgo hok hds o2
     simp only [Int.toNat_natCast] at hok hds
     have hp : p < ps.length := by omega
     have hgd := dnA_get hp (doneF order k)
     have hset2 := dnA_set (n := ps.length) (p := p) (c := doneF order k) (c' := doneF order (k + 1)) (x := (doneF order k p : Int) + 1) (by rw [hds, if_pos rfl]; omega) (fun q hq => by rw [hds, if_neg (Ne.symm hq)]; rfl)
     have hdk := hdk0 k (by omega) hR p
     have hup : doneF order (k + 1) = updN (doneF order k) p (doneF order k p + 1) := by
      funext q
      rw [hds]
      unfold updN
      by_cases e : q = p
      ·subst e; rw [if_pos rfl, if_pos rfl]
      ·rw [if_neg (Ne.symm e), if_neg e]; rfl
     obtain ⟨f1, f2, f3⟩ := isF_iff.1 hF
     have hrdy := rdy_iff hv hp f2 f3
     rw [← hup] at hrdy
     have hcut := ref12_Cut ps hs (cutL ps.length (doneF order (k + 1)))
     have hcl := cutL_len ps.length (doneF order (k + 1))
     rw [decide_eq_true hcl, Bool.true_and] at hcut
     have hcon := fun h => ref12_Consistent ps hs hl1 (cutL ps.length (doneF order (k + 1))) hcl h
     have hisF : isF ps (cutL ps.length (doneF order (k + 1))) = (inRangeF ps (cutL ps.length (doneF order (k + 1))) && closedF ps (cutL ps.length (doneF order (k + 1)))) := by unfold isF; rw [decide_eq_true hcl, Bool.true_and]
     have hCI : aInts (cutL ps.length (doneF order (k + 1))) = .sl 1 (dnA ps.length (doneF order (k + 1))) := by rw [← cutL_dnA]; rfl
     rw [hCI] at hcut hcon
     generalize inRangeF ps (cutL ps.length (doneF order (k + 1))) = B1 at *
     generalize closedF ps (cutL ps.length (doneF order (k + 1))) = B2 at *
     have hv1 : ∀ (z : ABlk), Vws [(bk, z), (bc, .row 3 1 (dnA ps.length (doneF order (k + 1))) ps.length)] [aTr ps, .ls bc 1 0 ps.length ps.length] [aTr ps, .sl 1 (dnA ps.length (doneF order (k + 1)))] := fun z => Vws.cons (.refl _) (Vws.cons (Vw.ofLs (t := 3) (cap := ps.length) (by simp only [lk, n2, if_false, if_true]) (dnA_length _ _).symm) .nil)
     simp only [go_sem]
     repeat (first | ((with_reducible refine AWp.ofC ?_ ?_); exact rfl; simp only [go_sem, hki2, hgo, hgd, dnA_length, n2, hset2]) | ((with_reducible refine an ?_ ?_); exact Au))
     refine (PC.view (hv1 _) hcut (Own.v _) ?_).val
     simp only [go_sem]
     repeat (first | ((with_reducible refine AWp.ofC ?_ ?_); exact rfl; simp only [go_sem]) | ((with_reducible refine an ?_ ?_); exact Au))
     refine GCall.use (ab B2) ?_ ?_
     ·intro g; exact ⟨At, (PC.view (hv1 _) (hcon (by simpa using g)) (Own.v _) ⟨rfl, rfl⟩).val⟩
     simp only [go_sem]
     repeat ((with_reducible refine an ?_ ?_); exact As)
     repeat (first | ((with_reducible refine AWp.ofC ?_ ?_); exact rfl; simp only [go_sem]) | ((with_reducible refine an ?_ ?_); exact Au))
     refine ⟨fun h5 => ?_, fun h5 => ?_⟩
     ·have hnr : ¬ RunOk ps order order.length := fun h => by
       have h6 := hrdy.2 (hok.1 (h.le (by omega)))
       rw [h6.1, h6.2] at h5
       simp at h5
      have e : aPeak ps order = .tup [ai 0, ai 11] := by
       unfold aPeak
       rw [if_neg (by rw [hv]; decide), if_neg (by rw [hnb]; decide), if_neg hnr]
      rw [e]
      repeat (first | ((with_reducible refine AWp.ofC ?_ ?_); exact rfl; simp only [go_sem]) | ((with_reducible refine an ?_ ?_); exact Au))
      refine ret_eq ?_; simp only [go_sem]
     ·intro h6
      have hR' := hok.2 (hrdy.1 ⟨h5, h6⟩)
      have hF' : isF ps (cutL ps.length (doneF order (k + 1))) = true := by rw [hisF, h5, h6]; rfl
      have hd1 : doneF order (k + 1) p = doneF order k p + 1 := by rw [hds, if_pos rfl]
      have hlt : doneF order k p < (stampF ps p).length := by
       have := run_le hmx (by omega) hR' p
       omega
      have hln := hG.le_nev p
      rw [nev_get hp] at hln
      have hpast := ref13_Past ps hs hv p hp (doneF order k p + 1) (by omega)
      have hsc := stamp_close hv hG p (doneF order k p) hlt
      rw [show ((doneF order k p + 1 : Nat) : Int) = (doneF order k p : Int) + 1 by omega, ← hsc] at hpast
      have hgd2 : (dnA ps.length (doneF order (k + 1))).getD p .any = ai ((doneF order k p : Int) + 1) := by
       rw [dnA_get hp, hd1]
       congr 2
      have hset1 := knA_set (n := ps.length) (p := p) (f := knQ ps order k) (f' := knQ ps order (k + 1)) (x := stOf (stampF ps) p (doneF order k p)) (by unfold knQ; rw [hds, if_pos rfl, if_neg (by omega)]; rfl)
       (fun q hq => by unfold knQ; rw [hds, if_neg (Ne.symm hq)]; rfl)
      have hrows := known_rows hG hmx (by omega) hR'
      have hkept := ref49_Kept (knownF ps order (k + 1)) (by rw [known_len]; omega) (by rw [known_len]; omega) (fun r hr => by rw [known_len]; exact (hrows r hr).1) (fun r hr n hn => by
       obtain ⟨j, hj, rfl⟩ := List.getElem_of_mem hn
       have h5 := (hrows r hr).2 j
       have e5 : r.getD j 0 = r[j] := by simp [hj]
       rw [e5] at h5
       have h6 := hdk0 (k + 1) (by omega) hR' j
       omega)
      have e6 : aRows (knownF ps order (k + 1)) = .sl 1 (knA ps.length (knQ ps order (k + 1))) := by rw [← knA_known]; rfl
      rw [e6] at hkept
      have hmax : peakF ps order (k + 1) = if peakF ps order k < keptF (knownF ps order (k + 1)) then keptF (knownF ps order (k + 1)) else peakF ps order k := by
       show max (peakF ps order k) (keptF (knownF ps order (k + 1))) = _
       split <;> omega
      have hv2 : Vws [(bk, .row 42 1 (knA ps.length (knQ ps order (k + 1))) cap), (bc, .row 3 1 (dnA ps.length (doneF order (k + 1))) ps.length)] [.ls bk 1 0 ps.length cap] [.sl 1 (knA ps.length (knQ ps order (k + 1)))] := Vws.cons (Vw.ofLs (t := 42) (cap := cap) (if_pos rfl) (knA_length _ _).symm) .nil
      generalize stOf (stampF ps) p (doneF order k p) = SX at *
      generalize closeF ps (stC ps.length p ((doneF order k p : Int) + 1)) = CX at *
      refine AWp.seq ?_
      refine AWp.mix mixed [0, 1, 2, 3, 4, 5, 6] (.step 7 (.step 8 (.step 9 (.step 10 (.step 11 .done .done) .done) .done) .done) .done) (by kernel_rfl) ?_; simp only [go_sem, hgd2, dnA_length, n2]
      repeat ((with_reducible refine an ?_ ?_); exact As)
      refine (hpast).val.use ?_
      have hgk : (knA ps.length (knQ ps order k)).getD p .any = .sl 1 ((knQ ps order k p).map ai) := map_range_getD hp _
      simp only [go_sem, knA_length, n1, hgk, hset1]
      repeat ((with_reducible refine an ?_ ?_); exact As)
      repeat (first | ((with_reducible refine AWp.ofC ?_ ?_); exact rfl; simp only [go_sem]) | ((with_reducible refine an ?_ ?_); exact Au))
      refine (PC.view hv2 hkept (Own.v _) ?_).val
      simp only [go_sem]
      repeat (first | ((with_reducible refine AWp.ofC ?_ ?_); exact rfl; simp only [go_sem]) | ((with_reducible refine an ?_ ?_); exact Au))
      refine ⟨fun h7 => ?_, fun h7 => ?_⟩
      ·repeat (first | ((with_reducible refine AWp.ofC ?_ ?_); exact rfl; simp only [go_sem]) | ((with_reducible refine an ?_ ?_); exact Au))
       exact ⟨_, List.Sublist.refl _, by rw [hmax, if_pos h7], hR', hF', rfl⟩
      ·repeat (first | ((with_reducible refine AWp.ofC ?_ ?_); exact rfl; simp only [go_sem]) | ((with_reducible refine an ?_ ?_); exact Au))
       exact ⟨_, List.Sublist.refl _, by rw [hmax, if_neg h7], hR', hF', rfl⟩
    ·have hki2 : ¬ (k : Int) < order.length := by omega
     have hke : k = order.length := by omega
     subst hke
     have e : aPeak ps order = .tup [ai (peakF ps order order.length), ai 0] := by
      unfold aPeak
      rw [if_neg (by rw [hv]; decide), if_neg (by rw [hnb]; decide), if_pos hR]
     rw [e]
     simp only [go_sem]
     repeat (first | ((with_reducible refine AWp.ofC ?_ ?_); exact rfl; simp only [go_sem, hki2]) | ((with_reducible refine an ?_ ?_); exact Au))
     refine ret_eq ?_; simp only [go_sem]
end Go.AL
end
section
namespace Go.AL
open Go Go.RowKit
def YldL (C : Cfg) (ops : Array Oper) (i : Nat) (o : Oper) (x : AV) (ρ : Env) (L : AHeap) : Prop :=
 ∀ ρ', (∀ t ∈ o.looksAt ops, get ρ' t = get ρ t) → GOp C ops i ρ' L fun ρ2 L2 => ρ2 = put ρ' o.dst x ∧ L2 = L
def aqL (C : Cfg) (all : List Oper) (o : Oper) (ρ : Env) (L : AHeap) (K : Env → Prop) : Prop :=
 match o.guard with
 | none => match aval C.P ρ L o.op with
  | some (c, x) => c ∧ K (put ρ o.dst x)
  | none => match o.op with
   | .call c => match c.callee with
    | .value g => GCall C.P True ((fo (ev ρ g)).1 ∧ fos (c.args.toList.map (ev ρ))) (fo (ev ρ g)).2 (c.args.toList.map fun x => (fo (ev ρ x)).2) L (putQ K ρ o.dst)
    | _ => False
   | _ => False
 | some (j, want) => match gval all ρ j want with
  | some b => match aval C.P ρ L o.op with
   | some (c, x) => (b = want → c) ∧ K (put ρ o.dst (.cond (b == want) x))
   | none => match o.op with
    | .call c => match c.callee with
     | .value g => GCall C.P (b = want) ((fo (ev ρ g)).1 ∧ fos (c.args.toList.map (ev ρ))) (fo (ev ρ g)).2 (c.args.toList.map fun x => (fo (ev ρ x)).2) L (putQC K ρ o.dst (b == want))
     | _ => b ≠ want ∧ K (put ρ o.dst (.cond (b == want) .any))
    | _ => b ≠ want ∧ K (put ρ o.dst (.cond (b == want) .any))
  | none => False
def aqLRun (C : Cfg) (all : List Oper) (L : AHeap) : List Nat → (Env → Prop) → Env → Prop
 | [], K, ρ => K ρ
 | i :: r, K, ρ => match all[i]? with
  | some o => aqL C all o ρ L (aqLRun C all L r K)
  | none => False
section
variable {C : Cfg} {ops : Array Oper} {L : AHeap}
theorem aqL_yields {i : Nat} {o : Oper} {ρ : Env} {K : Env → Prop} (hi : ops[i]? = some o) (hok : operOk C.N o = true) (h : aqL C ops.toList o ρ L K) : ∃ x, YldL C ops i o x ρ L ∧ K (put ρ o.dst x) := by
 have hd := operOk_dst hok
 have hdef := operOk_def hok
 unfold aqL at h
 split at h
 ·rename_i hg
  split at h
  ·rename_i c x hv
   exact ⟨x, fun ρ' hag => AOp.gop hi hg (aval_sound (by rw [aval_congr (agree_ops hag)]; exact hv) h.1 hd hdef), h.2⟩
  ·split at h
   ·rename_i cl ho
    split at h
    ·rename_i g h0
     obtain ⟨r, h1, h2⟩ := h
     refine ⟨r, fun ρ' hag => AOp.gop hi hg ?_, h2⟩
     have hag' := agree_ops hag
     rw [ho] at hag'
     obtain ⟨e1, e2, e3⟩ := call_congr h0 hag'
     exact call_sound ho h0 hd (by rw [e1, e2, e3]; exact ⟨(h1 trivial).1.1, (h1 trivial).1.2, (h1 trivial).2⟩)
    ·exact h.elim
   ·exact h.elim
 ·rename_i j want hg
  split at h
  ·rename_i b hv
   split at h
   ·rename_i c x ha
    refine ⟨_, fun ρ' hag => GOp.of_cond hi hg (by rw [agree_guard hag hg]; exact hv) hd fun hb => aval_sound (by rw [aval_congr (agree_ops hag)]; exact ha) (h.1 hb) hd hdef, h.2⟩
   ·split at h
    ·rename_i cl ho
     split at h
     ·rename_i g h0
      obtain ⟨r, h1, h2⟩ := h
      refine ⟨_, fun ρ' hag => GOp.of_cond hi hg (by rw [agree_guard hag hg]; exact hv) hd fun hb => ?_, h2⟩
      have hag' := agree_ops hag
      rw [ho] at hag'
      obtain ⟨e1, e2, e3⟩ := call_congr h0 hag'
      exact call_sound ho h0 hd (by rw [e1, e2, e3]; exact ⟨(h1 hb).1.1, (h1 hb).1.2, (h1 hb).2⟩)
     ·refine ⟨_, fun ρ' hag => GOp.of_cond hi hg (by rw [agree_guard hag hg]; exact hv) hd fun hb => absurd hb h.1, h.2⟩
    ·refine ⟨_, fun ρ' hag => GOp.of_cond hi hg (by rw [agree_guard hag hg]; exact hv) hd fun hb => absurd hb h.1, h.2⟩
  ·exact h.elim
def QFactL (C : Cfg) (ops : Array Oper) (ρ : Env) (L : AHeap) (q : Nat) : Prop := ∃ o x, ops[q]? = some o ∧ YldL C ops q o x ρ L ∧ ∀ d, o.dst = some d → get ρ d = x
theorem YldL.of_agree {i : Nat} {o : Oper} {x : AV} {ρ ρ' : Env} (h : YldL C ops i o x ρ L) (he : ∀ t ∈ o.looksAt ops, get ρ' t = get ρ t) : YldL C ops i o x ρ' L :=
 fun ρ2 hag => h ρ2 fun t ht => (hag t ht).trans (he t ht)
theorem aqLRun_facts {qs0 : List Nat} (hm : mixOk ops qs0 = true) (hok : ops.toList.all (operOk C.N) = true) : ∀ (qs : List Nat) (ρ : Env) (K : Env → Prop), (∀ q ∈ qs, q ∈ qs0) → ascend qs = true → aqLRun C ops.toList L qs K ρ →
  ∃ ρq, K ρq ∧ (∀ q ∈ qs, QFactL C ops ρq L q) ∧ ∀ s, (∀ q ∈ qs, dstOf ops q ≠ some s) → get ρq s = get ρ s
 | [], ρ, K, _, _, h => ⟨ρ, h, fun q hq => (by cases hq), fun _ _ => rfl⟩
 | i :: r, ρ, K, hsub, hasc, h => by
  obtain ⟨hlt, hasc'⟩ := ascend_cons hasc
  simp only [aqLRun] at h
  cases ho : ops.toList[i]? with
  | none => rw [ho] at h; exact h.elim
  | some o =>
   rw [ho] at h
   have ho' : ops[i]? = some o := by simpa using ho
   obtain ⟨x, hy, hK⟩ := aqL_yields ho' (List.all_eq_true.1 hok o (List.mem_of_getElem? ho)) h
   obtain ⟨ρq, h1, h2, h3⟩ := aqLRun_facts hm hok r _ K (fun q hq => hsub q (List.mem_cons_of_mem _ hq)) hasc' hK
   obtain ⟨p1, p2, _⟩ := mix_at hm ho'
   have hself : ∀ d, o.dst = some d → d ∉ o.looksAt ops := fun d hd hm' => by
    have := (p2 i (hsub i List.mem_cons_self) d (by simp [dstOf, ho', hd])).1 hm'
    exact absurd (p1 i this) (Nat.lt_irrefl i)
   refine ⟨ρq, h1, fun q hq => ?_, fun s hs => ?_⟩
   ·rcases List.mem_cons.1 hq with rfl | hq
    ·refine ⟨o, x, ho', hy.of_agree fun t ht => ?_, fun d hd => ?_⟩
     ·rw [h3 t fun q' hq' he => ?_, get_put, if_neg fun he => hself t he ht]
      have := (p2 q' (hsub q' (List.mem_cons_of_mem _ hq')) t he).1 ht
      have := p1 q' this; have := hlt q' hq'; omega
     ·rw [h3 d fun q' hq' he => ?_, get_put, if_pos hd]
      exact (p2 q' (hsub q' (List.mem_cons_of_mem _ hq')) d he).2 (by have := hlt q' hq'; omega) hd
    ·exact h2 q hq
   ·rw [h3 s fun q hq => hs q (List.mem_cons_of_mem _ hq), get_put, if_neg]
    have := hs i List.mem_cons_self
    simpa [dstOf, ho'] using this
theorem read_sound {qs : List Nat} (hm : mixOk ops qs = true) (hall : ∀ i, i < ops.size → i ∈ qs) {K : ARes} {n : Nat} {w0 : World} {M A0 : Foot} {Q : Exit → Act → World → Prop} (hQ : ∀ a w, post w0 M A0 C.N K a w → Q .normal a w) {ρT : Env} (hK : K ρT L) :
  ∀ (f : Nat) (listed : Array Bool) (a : Act) (w : World), listed.size = ops.size →
   (∀ l : List Nat, l.Nodup → (∀ i ∈ l, listed.getD i true = false) → l.length ≤ f) →
   (∀ q ∈ qs, listed.getD q true = false → QFactL C ops ρT L q) → St w0 M A0 C.N (mask ops qs listed ρT) L a w →
   wpAnyIn (Fw C.r) n C.P .any ops Q f listed a w := by
 have fin : ∀ (listed : Array Bool) (a : Act) (w : World), listed.size = ops.size → St w0 M A0 C.N (mask ops qs listed ρT) L a w → Region.ready .any ops listed = [] → Q .normal a w := by
  intro listed a w hsz hs hr
  have all : ∀ i, listed.getD i true = true := by
   intro i
   induction i using Nat.strongRecOn with
   | _ i ih =>
    cases hi : listed.getD i true with
    | true => rfl
    | false =>
     exfalso
     have hlt : i < ops.size := by
      rw [← hsz]
      by_cases h : i < listed.size
      ·exact h
      ·simp [Array.getD, h] at hi
     have ho : ops[i]? = some ops[i] := Array.getElem?_eq_getElem hlt
     have : i ∈ Region.ready .any ops listed := mem_ready.2 ⟨hi, _, ho, fun e he hb => by
      have hp := (mix_at hm ho).1 e.on (List.mem_map.2 ⟨e, List.mem_filter.2 ⟨by simpa using he, hb⟩, rfl⟩)
      exact getD_ft (by omega) (ih _ hp)⟩
     rw [hr] at this; cases this
  refine hQ a w ⟨ρT, L, hK, st_forget hs fun i => .inr ?_⟩
  rw [mask_out fun q _ hl => by rw [all q] at hl; cases hl]
 intro f
 induction f with
 | zero =>
  intro listed a w hsz hcnt hfact hs
  have hr : Region.ready .any ops listed = [] := by
   cases hh : Region.ready .any ops listed with
   | nil => rfl
   | cons j r =>
    have hj : j ∈ Region.ready .any ops listed := by rw [hh]; exact List.mem_cons_self
    have := hcnt [j] (by simp) (fun i hi => by simp at hi; subst hi; exact (mem_ready.1 hj).1)
    simp at this
  exact ⟨hr, fin listed a w hsz hs hr⟩
 | succ f ih =>
  intro listed a w hsz hcnt hfact hs
  refine ⟨fin listed a w hsz hs, fun i hi => ?_⟩
  obtain ⟨hun, o, ho, hpre⟩ := mem_ready.1 hi
  have hlt : i < ops.size := (Array.getElem?_eq_some_iff.1 ho).1
  obtain ⟨m1, m2, m3⟩ := mix_at hm ho
  have hlooks : ∀ t ∈ o.looksAt ops, get (mask ops qs listed ρT) t = get ρT t := fun t ht => mask_out fun q hq hl hd => by
   have hp := (m2 q hq t hd).1 ht
   obtain ⟨e, he, rfl⟩ := List.mem_map.1 hp
   obtain ⟨he1, he2⟩ := List.mem_filter.1 he
   have := getD_tf (hpre e (by simpa using he1) he2)
   rw [hl] at this; cases this
  have hcnt' : ∀ l : List Nat, l.Nodup → (∀ j ∈ l, (listed.setIfInBounds i true).getD j true = false) → l.length ≤ f := fun l hn hl => by
   have hil : i ∉ l := fun h => by
    have := hl i h
    simp [Array.getD, show i < listed.size by omega] at this
   have := hcnt (i :: l) (List.nodup_cons.2 ⟨hil, hn⟩) (fun j hj => by
    rcases List.mem_cons.1 hj with rfl | hj
    ·exact hun
    ·have := hl j hj
     have hne : i ≠ j := fun e => hil (e ▸ hj)
     rwa [getD_set_ne true hne] at this)
   simp at this; omega
  have hset : ∀ j, j ≠ i → (listed.setIfInBounds i true).getD j true = listed.getD j true := fun j hj => getD_set_ne true (Ne.symm hj)
  have hq := hall i hlt
  obtain ⟨o', x, ho', hy, hgx⟩ := hfact i hq hun
  rw [ho] at ho'; cases ho'
  refine wpOpIn_mono ?_ (hy _ hlooks n w0 M A0 a w Q hs)
  rintro a' w' ⟨ρ2, L2, ⟨rfl, rfl⟩, hs2⟩
  refine ih _ a' w' (by simpa using hsz) hcnt' (fun q hq' hl => hfact q hq' (by
   by_cases e : q = i
   ·subst e; exact hun
   ·rwa [hset q e] at hl)) (st_forget hs2 fun s => ?_)
  rcases mask_or (ops := ops) qs (listed.setIfInBounds i true) ρT s with ⟨h1, _⟩ | ⟨h1, h2⟩
  ·exact .inl h1
  ·refine .inr ?_
   rw [h1, get_put]
   by_cases hd : o.dst = some s
   ·rw [if_pos hd]; exact hgx s hd
   ·rw [if_neg hd, mask_out fun q hq' hl hds => ?_]
    by_cases e : q = i
    ·subst e; exact hd (by simpa [dstOf, ho] using hds)
    ·exact h2 q hq' (by rw [hset q e]; exact hl) hds
end
def readAll (ops : Array Oper) (qs : List Nat) : Bool := mixOk ops qs && (List.range ops.size).all fun i => qs.contains i
def readK (K : ARes) (L : AHeap) (ρ : Env) : Prop := K ρ L
theorem AWp.read {C : Cfg} {id : Nat} {ops : Array Oper} {Q : AQ} {ρ : Env} {L : AHeap} (hmx : C.P.follows .mixedOrders = true) (qs : List Nat) (hT : readAll ops qs = true) (h : aqLRun C ops.toList L qs (readK (Q .normal) L) ρ) :
  AWp C (.region id ops true) Q ρ L := fun hok n w0 M A0 a w hs => by
 simp only [readAll, Bool.and_eq_true, List.all_eq_true, List.contains_eq_mem, decide_eq_true_eq] at hT
 obtain ⟨hm, hal⟩ := hT
 have hasc := mix_asc hm
 obtain ⟨ρq, hK, hF, hother⟩ := aqLRun_facts hm hok qs ρ _ (fun _ h => h) hasc.1 h
 refine wpIn_region_any hmx ?_
 obtain ⟨A, ds, hs'⟩ := st_iff.1 hs
 refine read_sound hm (fun i hi => hal i (List.mem_range.2 hi)) (K := Q .normal) (fun a w ⟨ρ', L', h1, h2⟩ => ⟨ρ', L', h1, h2⟩) hK ops.size _ a _ (by simp) ?_ (fun q hq _ => hF q hq) (st_forget (st_iff.2 ⟨A, ds, hs'.drew⟩) fun s => ?_)
 ·intro l hn hl
  have := List.Nodup.length_le_of_subset hn (l₂ := List.range ops.size) (fun i hi => by
   have := hl i hi
   rw [List.mem_range]
   by_cases h : i < ops.size
   ·exact h
   ·simp [Array.getD, h] at this)
  simpa using this
 ·rcases mask_or (ops := ops) qs (Array.replicate ops.size false) ρq s with ⟨h1, _⟩ | ⟨h1, h2⟩
  ·exact .inl h1
  ·refine .inr ?_
   rw [h1]
   exact hother s fun q hq hd => h2 q hq (by simp [Array.getD, hasc.2 q hq]) hd
theorem aqLRun_nil (C : Cfg) (all : List Oper) (L : AHeap) (K : Env → Prop) (ρ : Env) : aqLRun C all L [] K ρ = K ρ := rfl
theorem aqLRun_cons (C : Cfg) (all : List Oper) (L : AHeap) (i : Nat) (r : List Nat) (K : Env → Prop) (ρ : Env) : aqLRun C all L (i :: r) K ρ = (match all[i]? with | some o => aqL C all o ρ L (aqLRun C all L r K) | none => False) := rfl
attribute [go_sem] aqLRun_nil aqLRun_cons aqL readK
end Go.AL
end
