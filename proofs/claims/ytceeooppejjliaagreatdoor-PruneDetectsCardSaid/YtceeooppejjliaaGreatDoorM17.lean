/- Texts of this claim's proof: WDx, WVec, WVec2, WPk2, WSg, WPz, WRp, WCt, WPv, WBig, WPw3, WXw, WCp. No condition. -/
import Derived.Test.YtceeooppejjliaaGreatDoorM12
import Derived.Test.YtceeooppejjliaaGreatDoorM15
import Derived.Test.YtceeooppejjliaaGreatDoorM16
import Derived.Test.YtceeooppejjliaaGreatDoorM14
import Derived.Test.YtceeooppejjliaaGreatDoorM6
import Derived.Test.YtceeooppejjliaaGreatDoorM7
import Derived.Test.YtceeooppejjliaaGreatDoorM9
import Derived.Test.YtceeooppejjliaaGreatDoorM8
section
namespace Go.AL
open Go Go.RowKit
set_option maxRecDepth 4000
section
variable {ps : List Pr} {c : List Int}
theorem lclB_mk {pr k n p q : Int} {s : ByteArray} {l : List Pd} (h : lclB pr (.mk k n p q s l) = true) : k ≠ 4 ∧ ((k = 2 ∨ k = 3) → p = pr) := by
 rw [lcl_mk] at h
 split at h
 ·cases h
 ·rename_i h4
  refine ⟨fun e => h4 (.inl e), fun e => ?_⟩
  rw [if_pos e] at h
  exact of_decide_eq_true h
theorem stO_cnt {p : Nat} (hp : p < ps.length) (k : Int) : (stO ps p k).cnt p = k := by
 unfold stO cutO
 simp only [Int.toNat_natCast, stC_get hp]
theorem val_rwL (hc : givenF ps [c] [] = 0) {p : Nat} (hp : p < ps.length) (k' : Nat) (t : Pd) : okT ps t = true → t.kind ≤ 8 → allB (lclB p) t = true → valF (stO (dropF ps c) p (k' : Nat)) (rwF c t) = valF (stO ps p ((k' : Int) + cAt c p)) t := by
 obtain ⟨hv, hcl, hcr, _⟩ := givenF_zero hc
 have hul := dropF_length hcl
 induction t using Pd.ind with
 | _ k n pr q s l ih =>
  intro ht hk hn
  obtain ⟨o1, o2, o3, o4⟩ := okT_sub ht
  obtain ⟨r2, r3, r4⟩ := res_leaf o2
  obtain ⟨n1, n2⟩ := allB_sub hn
  obtain ⟨n4, n23⟩ := lclB_mk n1
  simp only [Pd.kind] at hk
  have hch := child_le ht (show k ≤ 12 by omega)
  rw [rwF_mk]
  split
  ·rename_i e
   obtain rfl := loc3 o1 e
   have hpr := n23 (.inr e)
   subst hpr
   have e1 := stO_cnt (ps := dropF ps c) (p := p) (by omega) k'
   have e2 : c.getD (p : Int).toNat 0 = cAt c p := rfl
   have e3 := stO_cnt hp ((k' : Int) + cAt c p)
   rw [valF_mk, valF_mk]
   simp only [List.map_cons, List.map_nil, valF_mk, valN]
   rw [e, e1, e2, e3]
   simp
  ·rename_i e
   rw [valF_mk, valF_mk, List.map_map]
   have em : l.map (valF (stO (dropF ps c) p (k' : Nat)) ∘ rwF c) = l.map (valF (stO ps p ((k' : Int) + cAt c p))) := List.map_congr_left fun x hx => ih x hx (hch x hx).1 (hch x hx).2 (n2 x hx)
   rw [em]
   cases l with
   | cons a r => cases r <;> rfl
   | nil =>
    simp only [List.map_nil, valN]
    by_cases k1 : k = 1
    ·rw [if_pos k1, if_pos k1]
    by_cases k2 : k = 2
    ·rw [if_neg k1, if_pos k2, if_neg k1, if_pos k2]
     have hpr := n23 (.inl k2)
     subst hpr
     obtain ⟨hp', hpc, _, _, _, hnm, hst⟩ := drop_len hcl hp
     obtain ⟨b1, b2⟩ := inRangeF_get hcr hcl hp
     unfold stO cutO
     simp only [Int.toNat_natCast, List.getElem?_eq_getElem hp, List.getElem?_eq_getElem hp', stC_get hp, stC_get (show p < (dropF ps c).length by omega)]
     rw [hst, (nmB_fst s _ _ hnm).2, cAt_nat hpc]
     congr 2
     omega
    ·have : k = 4 := by
      obtain ⟨hpl, _⟩ := loc_len o1
      rcases parts_cases k with ⟨x, hx⟩ | ⟨x, hx⟩ | ⟨x, hx⟩ | x <;> simp at hpl <;> omega
     exact absurd this n4
theorem tru_rwL (hc : givenF ps [c] [] = 0) {p : Nat} (hp : p < ps.length) (k' : Nat) (t : Pd) : okT ps t = true → 9 ≤ t.kind → allB (lclB p) t = true → lclT (dropF ps c) p (rwF c t) (k' : Nat) = lclT ps p t ((k' : Int) + cAt c p) := by
 unfold lclT
 induction t using Pd.ind with
 | _ k n pr q s l ih =>
  intro ht hk hn
  obtain ⟨n1, n2⟩ := allB_sub hn
  simp only [Pd.kind] at hk
  rw [rwF_mk, if_neg (by omega), truF_mk, truF_mk, List.map_map, List.map_map]
  by_cases h12 : k ≤ 12
  ·have hch := child_le ht h12
   have em : l.map (valF (stO (dropF ps c) p (k' : Nat)) ∘ rwF c) = l.map (valF (stO ps p ((k' : Int) + cAt c p))) := List.map_congr_left fun x hx => val_rwL hc hp k' x (hch x hx).1 (hch x hx).2 (n2 x hx)
   rw [em]
   have h4 : k = 9 ∨ k = 10 ∨ k = 11 ∨ k = 12 := by omega
   unfold truN
   rcases h4 with rfl | rfl | rfl | rfl <;> rfl
  ·have hch := child_bool ht (by omega)
   have em : l.map (truF (stO (dropF ps c) p (k' : Nat)) ∘ rwF c) = l.map (truF (stO ps p ((k' : Int) + cAt c p))) := List.map_congr_left fun x hx => ih x hx (hch x hx).1 (hch x hx).2 (n2 x hx)
   rw [em]
   unfold truN
   simp only [if_neg (show ¬ k = 9 by omega), if_neg (show ¬ k = 10 by omega), if_neg (show ¬ k = 11 by omega), if_neg (show ¬ k = 12 by omega)]
theorem lcl_rw {p : Int} {t : Pd} (h1 : allB locB t = true) (h : allB (lclB p) t = true) : allB (lclB p) (rwF c t) = true := by
 refine rwF_all (f := andB locB (lclB p)) c (fun k n pr q s l e h => ?_) (fun k n pr q s l e h => ?_) t (allB_and t h1 h)
 ·unfold andB at h; rw [Bool.and_eq_true] at h
  exact ⟨rfl, h.2, loc3 h.1 e, rfl⟩
 ·unfold andB at h; rw [Bool.and_eq_true] at h; exact h.2
theorem cut_inB (hc : givenF ps [c] [] = 0) : c.all inB = true := by
 obtain ⟨hv, hcl, hcr, _⟩ := givenF_zero hc
 rw [List.all_eq_true]
 intro x hx
 obtain ⟨p, hp, rfl⟩ := List.getElem_of_mem hx
 have hpp : p < ps.length := by omega
 obtain ⟨b1, b2⟩ := inRangeF_get hcr hcl hpp
 obtain ⟨_, _, _, b3⟩ := (procF_parts hpp).1 (procF_of_valid hv hpp)
 unfold inB
 simp only [Bool.and_eq_true, decide_eq_true_eq]
 omega
theorem rw_local (hc : givenF ps [c] [] = 0) {p : Nat} {t : Pd} (he : lclF ps p 0 t = 0) :
  (rwRes t c).2 = 5 ∨ rwRes t c = (rwF c t, 0) ∧ (lclF (dropF ps c) p 0 (rwF c t) = 0 ∨ lclF (dropF ps c) p 0 (rwF c t) = 9) := by
 obtain ⟨g1, gp, _, _, g4, g5⟩ := lcl_ok he
 obtain ⟨f1, f2, f3, f4⟩ := checkF_zero g1
 obtain ⟨hv, hcl, hcr, _⟩ := givenF_zero hc
 have f3' := f3
 unfold okT at f3'
 simp only [Bool.and_eq_true] at f3'
 obtain ⟨⟨h1, h2⟩, h3⟩ := f3'
 have hcov : allB (covB c.length) t = true := by
  refine allB_mono (fun x hx => ?_) t h2
  obtain ⟨k, n, p, q, s, l⟩ := x
  obtain ⟨_, r3, _⟩ := res_leaf hx
  show (!(decide (k = 3) && (decide (p < 0) || decide ((c.length : Int) ≤ p)))) = true
  by_cases e : k = 3
  ·obtain ⟨i, rfl, hp⟩ := isPB_nat (r3 e)
   rw [decide_eq_false (show ¬ (i : Int) < 0 by omega), decide_eq_false (show ¬ (c.length : Int) ≤ i by omega)]; simp
  ·rw [decide_eq_false e]; rfl
 unfold rwRes
 rw [f2, cut_inB hc, hcov]
 simp only [Bool.not_true, Bool.or_self, Bool.false_eq_true, if_false]
 by_cases hff : formedB (rwF c t) = false
 ·rw [if_pos hff]; exact .inl rfl
 ·rw [if_neg hff]
  have hff : formedB (rwF c t) = true := by simpa using hff
  refine .inr ⟨rfl, ?_⟩
  have hok := okT_rw hcl f3 hff
  have hok' := hok
  unfold okT at hok'
  simp only [Bool.and_eq_true] at hok'
  have hul := dropF_length hcl
  have hck : checkF (dropF ps c) (rwF c t) = if fitB (dropF ps c) (rwF c t) = false then 9 else 0 := by
   unfold checkF
   rw [drop_valid hv hcl hcr, hff, hok'.1.2]
   unfold typedB
   rw [hok'.2]
   simp
  unfold lclF
  rw [hck]
  cases hft : fitB (dropF ps c) (rwF c t)
  ·exact .inr rfl
  ·refine .inl ?_
   have hk : ¬ (rwF c t).kind ≤ 8 := by
    rw [rwF_kind]; split <;> omega
   have hev : 0 ≤ evN (dropF ps c) p := by unfold evN; split <;> omega
   rw [if_neg (by simp), if_neg (fun h => h ⟨by omega, by omega, by omega, hev⟩), if_neg hk, lcl_rw h1 g5]
   simp
theorem con_rw (hc : givenF ps [c] [] = 0) {ts : List Pd} (hf : conF ps ts = 0) (hr : ∀ t ∈ ts, ¬ (rwRes t c).2 = 5) : conF (dropF ps c) (ts.map (rwF c)) = 0 ∨ conF (dropF ps c) (ts.map (rwF c)) = 9 := by
 obtain ⟨hv, htn, hl⟩ := conF_inv hf
 obtain ⟨_, hcl, hcr, _⟩ := givenF_zero hc
 have hV : validF (dropF ps c) = true ∧ (ts.map (rwF c)).length = (dropF ps c).length := ⟨drop_valid hv hcl hcr, by rw [List.length_map, dropF_length hcl, htn]⟩
 have h1 : ∀ q (hq : q < (ts.map (rwF c)).length), lclF (dropF ps c) q 0 (ts.map (rwF c))[q] = 0 ∨ lclF (dropF ps c) q 0 (ts.map (rwF c))[q] = 9 := fun q hq => by
  rw [List.length_map] at hq
  rw [List.getElem_map]
  rcases rw_local hc (hl q hq) with h | ⟨_, h⟩
  ·exact absurd h (hr _ (List.getElem_mem hq))
  ·exact h
 by_cases hz : ∀ q (hq : q < (ts.map (rwF c)).length), lclF (dropF ps c) q 0 (ts.map (rwF c))[q] = 0
 ·exact .inl (conF_zero hV hz)
 ·right
  obtain ⟨p, hp, hpz, hp0⟩ : ∃ p, ∃ hp : p < (ts.map (rwF c)).length, lclF (dropF ps c) p 0 (ts.map (rwF c))[p] ≠ 0 ∧ ∀ q (hq : q < (ts.map (rwF c)).length), q < p → lclF (dropF ps c) q 0 (ts.map (rwF c))[q] = 0 := by
   classical
   have hex : ∃ p, ∃ hp : p < (ts.map (rwF c)).length, lclF (dropF ps c) p 0 (ts.map (rwF c))[p] ≠ 0 := by
    by_cases h : ∃ p, ∃ hp : p < (ts.map (rwF c)).length, lclF (dropF ps c) p 0 (ts.map (rwF c))[p] ≠ 0
    ·exact h
    ·refine absurd (fun q hq => ?_) hz
     by_cases e : lclF (dropF ps c) q 0 (ts.map (rwF c))[q] = 0
     ·exact e
     ·exact absurd ⟨q, hq, e⟩ h
   obtain ⟨m, hm1, hm2⟩ := least hex
   obtain ⟨hp, hne⟩ := hm1
   refine ⟨m, hp, hne, fun q hq hqm => ?_⟩
   by_cases e : lclF (dropF ps c) q 0 (ts.map (rwF c))[q] = 0
   ·exact e
   ·have := hm2 q ⟨hq, e⟩; omega
  rw [conF_hit hV hp hp0 hpz]
  exact (h1 p hp).resolve_left hpz
theorem back_given (hc : givenF ps [c] [] = 0) {d : List Int} (hd : givenF (dropF ps c) [d] [] = 0) : givenF ps [shS d c] [] = 0 ∧ ∀ p, p < ps.length → cAt (shS d c) p = cAt d p + cAt c p := by
 obtain ⟨hv, hcl, hcr, hcc⟩ := givenF_zero hc
 obtain ⟨_, hdl, hdr, hdc⟩ := givenF_zero hd
 have hm := (valid_parts hv).2.2
 have hul := dropF_length hcl
 have hum := drop_msgF hm hcl hcr
 have hl : (shS d c).length = ps.length := by rw [shS_length d c (by omega)]; omega
 have hs : ∀ p : Nat, p < ps.length → cAt (shS d c) p = cAt d p + cAt c p := fun p hp => zw_cAt (by omega) (by omega)
 have hcrr := (inRange_iff hcl).1 hcr
 have hdrr := (inRange_iff hdl).1 hdr
 refine ⟨?_, hs⟩
 rw [givenL]
 refine ⟨⟨hv, fun x hx => ?_⟩, fun x hx => ?_, fun x hx => ?_⟩ <;> (simp only [List.mem_singleton] at hx; subst hx)
 ·exact hl
 ·rw [inRange_iff hl]
  intro p hp
  obtain ⟨hp', hpc, l1, _⟩ := drop_len hcl hp
  have h1 := hcrr p hp
  have h2 := hdrr p hp'
  rw [hs p hp]
  rw [cAt_nat hpc] at *
  omega
 ·rw [closed_iff]
  intro p hp i hi hk hle
  obtain ⟨hq, j, hj, s1, s2, s3⟩ := recv_peer hm hp hi hk
  rw [s1]
  simp only
  rw [hs _ hq]
  have hdq := (hdrr _ (show ps[p].evs[i].peer.toNat < (dropF ps c).length by omega)).1
  by_cases hic : (i : Int) + 1 ≤ cAt c p
  ·have h1 := closed_iff.1 hcc p hp i hi hk hic
   rw [s1] at h1
   simp only at h1
   omega
  ·obtain ⟨hp', hpc, l1, _⟩ := drop_len hcl hp
   obtain ⟨hr1, hr2⟩ := inRangeF_get hcr hcl hp
   have hcp := cAt_nat hpc
   obtain ⟨i', rfl⟩ : ∃ i', i = c[p].toNat + i' := ⟨i - c[p].toNat, by omega⟩
   have hi' : i' < (dropF ps c)[p].evs.length := by omega
   obtain ⟨_, _, _, e1⟩ := drop_ev hcl hp' hi'
   obtain ⟨_, hst⟩ := sent_iff hm hcl hp hi hk
   rw [s1] at hst
   have hq2 : ps[p].evs[c[p].toNat + i'].peer.toNat < c.length := by omega
   have hcq := cAt_nat hq2
   cases hS : sentB ps c ps[p].evs[c[p].toNat + i'].msg with
   | true =>
    rw [hS] at hst
    have := hst.symm
    rw [decide_eq_true_eq] at this
    simp only [Int.toNat_natCast] at this
    have h9 : (j : Int) + 1 ≤ c[ps[p].evs[c[p].toNat + i'].peer.toNat] := by simpa using this
    omega
   | false =>
    have dk := dropEv_kind (S := sentB ps c) (e := ps[p].evs[c[p].toNat + i'])
    have e2 := dk.2.2.2.2 hk hS
    rw [e2] at e1
    have hgt : c[ps[p].evs[c[p].toNat + i'].peer.toNat] < (j : Int) + 1 := by
     rw [hS] at hst
     have := hst.symm
     rw [decide_eq_false_iff_not] at this
     simpa using this
    obtain ⟨hs1, hs2⟩ := inRangeF_get hcr hcl hq
    obtain ⟨hq', _, l2, _⟩ := drop_len hcl hq
    have hjn : j - c[ps[p].evs[c[p].toNat + i'].peer.toNat].toNat < (dropF ps c)[ps[p].evs[c[p].toNat + i'].peer.toNat].evs.length := by omega
    obtain ⟨_, _, hx, e4⟩ := drop_ev hcl hq' hjn
    have idx : c[ps[p].evs[c[p].toNat + i'].peer.toNat].toNat + (j - c[ps[p].evs[c[p].toNat + i'].peer.toNat].toNat) = j := by omega
    simp only [idx] at e4
    have d2 := dropEv_kind (S := sentB ps c) (e := ps[ps[p].evs[c[p].toNat + i'].peer.toNat].evs[j])
    rw [d2.2.2.2.1 s2] at e4
    have hu := pair_unique hum hq' hjn (.inl (by rw [e4]; exact s2))
    rw [e4, s2, s3] at hu
    have hsn : sndr (dropF ps c) ps[p].evs[c[p].toNat + i'].msg = _ := hu
    have hle2 : (i' : Int) + 1 ≤ cAt d p := by rw [hs p hp] at hle; omega
    have h8 := closed_iff.1 hdc p hp' i' hi' (by rw [e1]; exact hk) hle2
    rw [e1, hsn] at h8
    simp only at h8
    omega
theorem sat_given (hv : validF ps = true) {E : Elim} {d : List Int} (h : SatD ps E d) : givenF ps [d] [] = 0 := by
 rw [givenL]
 exact ⟨⟨hv, fun x hx => by simp only [List.mem_singleton] at hx; subst hx; exact h.len⟩, fun x hx => by simp only [List.mem_singleton] at hx; subst hx; exact h.rng, fun x hx => by simp only [List.mem_singleton] at hx; subst hx; exact h.clo⟩
theorem given_one {d : List Int} (h : givenF ps [d] [] = 0) : d.length = ps.length ∧ inRangeF ps d = true ∧ closedF ps d = true := by
 obtain ⟨_, h1, h2, h3⟩ := givenF_zero h
 exact ⟨h1, h2, h3⟩
theorem el_ok {ts : List Pd} {p : Nat} (hp : p < ts.length) (k : Nat) : (elimOf ps ts).ok p k = lclT ps p ts[p] k := by
 show (match ts[p]? with | some t => lclT ps p t k | none => true) = _
 rw [List.getElem?_eq_getElem hp]
theorem ok_rw (hc : givenF ps [c] [] = 0) {ts : List Pd} (hf : conF ps ts = 0) {p : Nat} (hp : p < ps.length) (k : Nat) : (elimOf (dropF ps c) (ts.map (rwF c))).ok p k = (elimOf ps ts).ok p (k + (cAt c p).toNat) := by
 obtain ⟨hv, htn, hl⟩ := conF_inv hf
 obtain ⟨_, hcl, hcr, _⟩ := givenF_zero hc
 have hpt : p < ts.length := by omega
 have h0 := ((inRange_iff hcl).1 hcr p hp).1
 obtain ⟨g1, gp, _, _, g4, g5⟩ := lcl_ok (hl p hpt)
 obtain ⟨f1, f2, f3, f4⟩ := checkF_zero g1
 have h := tru_rwL hc hp k ts[p] f3 g4 g5
 rw [el_ok (by rw [List.length_map]; exact hpt), el_ok hpt, List.getElem_map, h]
 congr 1
 omega
theorem sat_rest (hc : givenF ps [c] [] = 0) {ts : List Pd} (hf : conF ps ts = 0) {d : List Int} (hd : SatD ps (elimOf ps ts) d) (hle : ∀ p, p < ps.length → cAt c p ≤ cAt d p) : SatD (dropF ps c) (elimOf (dropF ps c) (ts.map (rwF c))) (subL d c) := by
 obtain ⟨hv, htn, hl⟩ := conF_inv hf
 obtain ⟨_, hcl, hcr, _⟩ := givenF_zero hc
 obtain ⟨a1, a2, a3⟩ := given_one (rest_given hc (sat_given hv hd) hle)
 refine ⟨a1, a2, a3, fun p hp => ?_⟩
 rw [dropF_length hcl] at hp
 have hs : cAt (subL d c) p = cAt d p - cAt c p := zw_cAt (by have := hd.len; omega) (by have := hd.len; omega)
 have h0 := ((inRange_iff hcl).1 hcr p hp).1
 have h1 := hle p hp
 have h2 := hd.ok p hp
 rw [ok_rw hc hf hp, hs, show (cAt d p - cAt c p).toNat + (cAt c p).toNat = (cAt d p).toNat by omega]
 exact h2
theorem sat_back (hc : givenF ps [c] [] = 0) {ts : List Pd} (hf : conF ps ts = 0) {d : List Int} (hd : SatD (dropF ps c) (elimOf (dropF ps c) (ts.map (rwF c))) d) : SatD ps (elimOf ps ts) (shS d c) ∧ ∀ p, p < ps.length → cAt (shS d c) p = cAt d p + cAt c p := by
 obtain ⟨hv, htn, hl⟩ := conF_inv hf
 obtain ⟨_, hcl, hcr, _⟩ := givenF_zero hc
 have hul := dropF_length hcl
 obtain ⟨h1, h2⟩ := back_given hc (sat_given (drop_valid hv hcl hcr) hd)
 obtain ⟨a1, a2, a3⟩ := given_one h1
 refine ⟨⟨a1, a2, a3, fun p hp => ?_⟩, h2⟩
 have h3 := hd.ok p (by omega)
 have h0 := ((inRange_iff hcl).1 hcr p hp).1
 have h4 := ((inRange_iff hd.len).1 hd.rng p (by omega)).1
 rw [ok_rw hc hf hp] at h3
 rw [h2 p hp, show (cAt d p + cAt c p).toNat = (cAt d p).toNat + (cAt c p).toNat by omega]
 exact h3
theorem leq_cAt {a b : List Int} (h : leqF a b = true) : a.length = b.length ∧ ∀ p : Nat, p < a.length → cAt a p ≤ cAt b p := by
 obtain ⟨h1, h2⟩ := leqF_iff.1 h
 refine ⟨h1, fun p hp => ?_⟩
 have := h2 p hp
 unfold cAt
 rw [Int.toNat_natCast]
 exact this
theorem detects (hc : givenF ps [c] [] = 0) {ts : List Pd} (hf : conF ps ts = 0) :
  (lostF (elimOf ps ts) = true → lostF (elimOf (dropF ps c) (ts.map (rwF c))) = true) ∧
  (lostF (elimOf ps ts) = false → leqF c (cutL ps.length (finF (elimOf ps ts))) = true → lostF (elimOf (dropF ps c) (ts.map (rwF c))) = false ∧ shiftR (cutL (dropF ps c).length (finF (elimOf (dropF ps c) (ts.map (rwF c))))) c = (cutL ps.length (finF (elimOf ps ts)), 0)) := by
 obtain ⟨hv, htn, hl⟩ := conF_inv hf
 obtain ⟨_, hcl, hcr, _⟩ := givenF_zero hc
 obtain ⟨hl1, hl8⟩ := valid_len hv
 have hul := dropF_length hcl
 have hvu := drop_valid hv hcl hcr
 have hN := elim_need ps ts
 have hNu := elim_need (dropF ps c) (ts.map (rwF c))
 refine ⟨fun h => ?_, fun h hle => ?_⟩
 ·cases e : lostF (elimOf (dropF ps c) (ts.map (rwF c))) with
  | true => rfl
  | false =>
   obtain ⟨d, hd⟩ := (lost_iff hvu hNu).1 e
   have := (lost_iff hv hN).2 ⟨_, (sat_back hc hf hd).1⟩
   rw [h] at this; cases this
 ·obtain ⟨e1, e2⟩ := leq_cAt hle
  obtain ⟨s1, s2⟩ := fin_least hv hN h
  generalize hF : cutL ps.length (finF (elimOf ps ts)) = F at *
  have hFl := s1.len
  have hr := sat_rest hc hf s1 fun p hp => e2 p (by omega)
  have hlo := (lost_iff hvu hNu).2 ⟨_, hr⟩
  refine ⟨hlo, ?_⟩
  obtain ⟨t1, t2⟩ := fin_least hvu hNu hlo
  generalize cutL (dropF ps c).length (finF (elimOf (dropF ps c) (ts.map (rwF c)))) = G at *
  obtain ⟨b1, b2⟩ := sat_back hc hf t1
  have hGl := t1.len
  have hsl := shS_length G c (by omega)
  have hEq : shS G c = F := cut_ext (by omega) fun p hp => by
   have hpp : p < ps.length := by omega
   have h1 := s2 _ b1 p hpp
   have h2 := t2 _ hr p (by omega)
   have h3 : cAt (subL F c) p = cAt F p - cAt c p := zw_cAt (by omega) (by omega)
   have h4 := b2 p hpp
   omega
  have i1 := cut_inB hc
  have i2 := cut_inB (sat_given hvu t1)
  have i3 := cut_inB (sat_given hv b1)
  unfold shiftR
  rw [i1, i2, i3, decide_eq_true (show G.length = c.length by omega), decide_eq_false (show ¬ 8 < G.length by omega), hEq]
  simp
end
end Go.AL
end
section
namespace Go.AL
open Go Go.RowKit
set_option maxRecDepth 4000
end Go.AL
end
section
namespace Go.AL
open Go Go.RowKit
set_option maxRecDepth 4000
def VSt (n bo bs : Nat) (S : Nat → List (List Int)) (T : Int → AV) (L : AHeap) : Prop :=
 ∃ (V : Nat → AV) (Ls : Nat → AHeap) (SV : List AV), L.Perm ((bs, .row 42 1 SV 200) :: (bo, .row 39 1 ((List.range n).map V) n) :: famL n Ls) ∧
  (∀ p, p < n → AppSt 42 1 ((S p).map aInts) (V p) (Ls p)) ∧ SV.length = 200 ∧ ∀ m : Int, 0 ≤ m → m ≤ 199 → SV.getD m.toNat .any = T m
theorem VSt.perm {n bo bs : Nat} {S : Nat → List (List Int)} {T : Int → AV} {L L' : AHeap} (hp : L'.Perm L) (h : VSt n bo bs S T L) : VSt n bo bs S T L' :=
 let ⟨V, Ls, SV, h1, h2⟩ := h
 ⟨V, Ls, SV, hp.trans h1, h2⟩
theorem VSt.open {n bo bs : Nat} {S : Nat → List (List Int)} {T : Int → AV} {L : AHeap} (h : VSt n bo bs S T L) {p : Nat} (hp : p < n) :
  ∃ (V : Nat → AV) (Ls : Nat → AHeap) (SV : List AV), L.Perm ((bs, .row 42 1 SV 200) :: (bo, .row 39 1 ((List.range n).map V) n) :: (Ls p ++ famR n p Ls)) ∧
   AppSt 42 1 ((S p).map aInts) (V p) (Ls p) ∧ SV.length = 200 ∧ (∀ m : Int, 0 ≤ m → m ≤ 199 → SV.getD m.toNat .any = T m) ∧
   ∀ (S' : Nat → List (List Int)) (T' : Int → AV) (x : AV) (Lp : AHeap) (SV' : List AV) (L' : AHeap), (∀ q, q ≠ p → S' q = S q) → AppSt 42 1 ((S' p).map aInts) x Lp → SV'.length = 200 → (∀ m : Int, 0 ≤ m → m ≤ 199 → SV'.getD m.toNat .any = T' m) →
    L'.Perm ((bs, .row 42 1 SV' 200) :: (bo, .row 39 1 (((List.range n).map V).set p x) n) :: (Lp ++ famR n p Ls)) → VSt n bo bs S' T' L' := by
 obtain ⟨V, Ls, SV, h1, h2, h3, h4⟩ := h
 refine ⟨V, Ls, SV, h1.trans (((fam_split hp Ls).cons _).cons _), h2 p hp, h3, h4, fun S' T' x Lp SV' L' hS hA hl hT hL => ?_⟩
 refine ⟨fun q => if q = p then x else V q, fun q => if q = p then Lp else Ls q, SV', ?_, fun q hq => ?_, hl, hT⟩
 ·refine hL.trans ?_
  rw [map_range_set]
  refine (List.Perm.cons _ (List.Perm.cons _ ?_))
  have hsp := fam_split hp (fun q => if q = p then Lp else Ls q)
  rw [if_pos rfl, famR_congr (Ls := Ls) (fun q hq => if_neg hq)] at hsp
  exact hsp.symm
 ·by_cases e : q = p
  ·subst e; dsimp only; rw [if_pos rfl, if_pos rfl]; exact hA
  ·dsimp only; rw [if_neg e, if_neg e, hS q e]; exact h2 q hq
end Go.AL
end
section
namespace Go.AL
open Go Go.RowKit
set_option maxRecDepth 4000
noncomputable def aStamps (ps : List Pr) : AV := if validF ps then .tup [aRows3 ((List.range ps.length).map (stampF ps)), ai 0] else .tup [.sl 1 [], ai 1]
theorem Vws.set {L : AHeap} {xs ys : List AV} {a b : AV} (h : Vws L xs ys) (hab : Vw L a b) (i : Nat) : Vws L (xs.set i a) (ys.set i b) := by
 refine ⟨by rw [List.length_set, List.length_set]; exact h.1, fun j x y hx hy => ?_⟩
 rw [List.getElem?_set] at hx hy
 by_cases e : i = j
 ·subst e
  rw [if_pos rfl] at hx hy
  split at hx
  ·split at hy
   ·cases hx; cases hy; exact hab
   ·cases hy
  ·cases hx
 ·rw [if_neg e] at hx hy; exact h.2 j x y hx hy
def knA (n : Nat) (f : Nat → List Int) : List AV := (List.range n).map fun q => .sl 1 ((f q).map ai)
noncomputable def knQ (ps : List Pr) (order : List Int) (k q : Nat) : List Int := if doneF order k q = 0 then List.replicate ps.length 0 else stOf (stampF ps) q (doneF order k q - 1)
def badP (n : Nat) (p : Int) : Bool := decide (p < 0) || decide ((n : Int) ≤ p)
open Classical in
noncomputable def aPeak (ps : List Pr) (order : List Int) : AV :=
 if validF ps = false then .tup [ai 0, ai 1] else if order.any (badP ps.length) = true then .tup [ai 0, ai 2] else if RunOk ps order order.length then .tup [ai (peakF ps order order.length), ai 0] else .tup [ai 0, ai 11]
end Go.AL
end
section
namespace Go.AL
open Go Go.RowKit
set_option maxRecDepth 4000
def Clo (ps : List Pr) (d : Nat → Int) : Prop := ∀ a, a < ps.length → ∀ i, i < nev ps a → (evq ps a i).kind = 3 → (i : Int) + 1 ≤ d a → (sndr ps (evq ps a i).msg).2 ≤ d (sndr ps (evq ps a i).msg).1.toNat
structure StOk (ps : List Pr) (S : Nat → List (List Int)) (p k : Nat) : Prop where
 len : (stOf S p k).length = ps.length
 own : (stOf S p k).getD p 0 = (k : Int) + 1
 le : ∀ j, (stOf S p k).getD j 0 ≤ (S j).length
 nn : ∀ j, 0 ≤ (stOf S p k).getD j 0
 clo : Clo ps fun j => (stOf S p k).getD j 0
 least : ∀ d : Nat → Int, Clo ps d → (∀ j, 0 ≤ d j) → (k : Int) + 1 ≤ d p → ∀ j, (stOf S p k).getD j 0 ≤ d j
end Go.AL
end
section
namespace Go.AL
open Go Go.RowKit
set_option maxRecDepth 4000
end Go.AL
end
section
namespace Go.AL
open Go Go.RowKit
set_option maxRecDepth 4000
structure MidC (ps : List Pr) (c d : List Int) : Prop where
 len : d.length = ps.length
 ge : ∀ p, p < ps.length → cAt c p ≤ cAt d p
 le : ∀ p, p < ps.length → cAt d p ≤ cAt (closeF ps c) p
def evOk (ps : List Pr) (d : List Int) (p i : Nat) : Prop := (evq ps p i).kind = 3 → (i : Int) + 1 ≤ cAt d p → (sndr ps (evq ps p i).msg).2 ≤ cAt d (sndr ps (evq ps p i).msg).1
end Go.AL
end
section
namespace Go.AL
open Go Go.RowKit
set_option maxRecDepth 4000
open Classical in
noncomputable def anc (ps : List Pr) (x : Eid) : Nat := (evIds ps).countP fun e => decide (Reach ps e.1 x)
def isF (ps : List Pr) (c : List Int) : Bool := (decide (c.length = ps.length) && inRangeF ps c) && closedF ps c
theorem isF_iff {ps : List Pr} {c : List Int} : isF ps c = true ↔ c.length = ps.length ∧ inRangeF ps c = true ∧ closedF ps c = true := by
 unfold isF
 rw [Bool.and_eq_true, Bool.and_eq_true, decide_eq_true_eq, and_assoc]
def stpC (c : List Int) (p : Nat) : List Int := c.set p (cAt c p + 1)
def nx1 (ps : List Pr) (c : List Int) (p : Nat) : List (List Int) := if cAt c p < nev ps p ∧ isF ps (stpC c p) = true then [stpC c p] else []
def nextT (ps : List Pr) (c : List Int) (k : Nat) : List (List Int) := (List.range k).flatMap (nx1 ps c)
def nextL (ps : List Pr) (c : List Int) : List (List Int) := nextT ps c c.length
def lexF : List Int → List Int → Bool
 | a :: x, b :: y => if a = b then lexF x y else decide (a < b)
 | _, _ => false
def befF (a b : List Int) : Bool := if a.sum = b.sum then lexF a b else decide (a.sum < b.sum)
def insF (l : List (List Int)) (c : List Int) : List (List Int) := if (l.dropWhile fun x => befF x c).head? = some c then l else (l.takeWhile fun x => befF x c) ++ c :: l.dropWhile fun x => befF x c
def insL (acc l : List (List Int)) : List (List Int) := l.foldl insF acc
def moreT (ps : List Pr) (lv : List (List Int)) : List (List Int) := lv.foldl (fun acc c => insL acc (nextL ps c)) []
def levF (ps : List Pr) : Nat → List (List Int)
 | 0 => [List.replicate ps.length 0]
 | k + 1 => moreT ps (levF ps k)
def cumF (ps : List Pr) (k : Nat) : List (List Int) := (List.range k).flatMap (levF ps)
def cutsF (ps : List Pr) : List (List Int) := cumF ps (off ps ps.length + 1)
end Go.AL
end
section
namespace Go.AL
open Go Go.RowKit
set_option maxRecDepth 4000
def zRows (n k : Nat) : List AV := List.replicate k (.sl 1 (List.replicate n (ai 0)))
end Go.AL
end
section
namespace Go.AL
open Go Go.RowKit
set_option maxRecDepth 4000
def asg20 (e : Ev) : Bool := decide (20 < (e.asg.length : Int))
def bigP (x : Pr) : Bool := decide (70 < (x.evs.length : Int)) || (decide (20 < (x.vars.length : Int)) || x.evs.any asg20)
def bigF (ps : List Pr) : Bool := decide (10 < (ps.length : Int)) || ps.any bigP
theorem bigF_sm {ps : List Pr} (h : bigF ps = false) : Sm ps := by
 simp only [bigF, Bool.or_eq_false_iff, decide_eq_false_iff_not, List.any_eq_false, bigP, asg20, Bool.or_eq_true, decide_eq_true_eq, not_or, Bool.not_eq_true] at h
 obtain ⟨h1, h2⟩ := h
 exact ⟨by omega, fun p hp => by have := (h2 p hp).1; omega, fun p hp => by have := (h2 p hp).2.1; omega, fun p hp e he => by have := (h2 p hp).2.2 e he; omega⟩
theorem law49_big11 (e : Ev) : PC Proofs.Tryz.prog 93 [aEv e] (ab (asg20 e)) := by
 refine PC.enter 7 [.tmp 2] [1] Proofs.Tryz.func93 rfl rfl rfl rfl rfl (by simp) (AWp.of ?_); simp only [go_sem]
 repeat (first | ((with_reducible refine AWp.ofC ?_ ?_); exact rfl; simp only [go_sem]) | ((with_reducible refine an ?_ ?_); exact Au))
 refine ret_eq ?_; simp only [go_sem]
 rfl
theorem law49_big1 (x : Pr) : PC Proofs.Tryz.prog 92 [aPr x] (ab (bigP x)) := by
 refine PC.enter 18 [.tmp 2] [1] Proofs.Tryz.func92 rfl rfl rfl rfl rfl (by simp) (AWp.of ?_); simp only [go_sem]
 repeat (first | ((with_reducible refine AWp.ofC ?_ ?_); exact rfl; simp only [go_sem]) | ((with_reducible refine an ?_ ?_); exact Au))
 refine GCall.use (ab (x.evs.any asg20)) (fun hg => ⟨by have := hg; simp at this ⊢; omega, (events_containsFunc x.evs (by have := hg; simp at this; omega) _ rfl asg20 fun e _ => (law49_big11 e).val).val.use ⟨rfl, rfl⟩⟩) ?_; simp only [go_sem]
 repeat (first | ((with_reducible refine AWp.ofC ?_ ?_); exact rfl; simp only [go_sem]) | ((with_reducible refine an ?_ ?_); exact Au))
 refine ret_eq ?_; simp only [go_sem]
 unfold bigP; rw [Bool.or_assoc]
theorem law49_big (ps : List Pr) : PC Proofs.Tryz.prog 41 [aTr ps] (ab (bigF ps)) := by
 refine PC.enter 12 [.tmp 2] [1] Proofs.Tryz.func41 rfl rfl rfl rfl rfl (by simp) (AWp.of ?_); simp only [go_sem]
 repeat (first | ((with_reducible refine AWp.ofC ?_ ?_); exact rfl; simp only [go_sem]) | ((with_reducible refine an ?_ ?_); exact Au))
 refine GCall.use (ab (ps.any bigP)) (fun hg => ⟨by have := hg; simp at this ⊢; omega, (procs_containsFunc ps (by have := hg; simp at this; omega) _ rfl bigP fun e _ => (law49_big1 e).val).val.use ⟨rfl, rfl⟩⟩) ?_; simp only [go_sem]
 repeat (first | ((with_reducible refine AWp.ofC ?_ ?_); exact rfl; simp only [go_sem]) | ((with_reducible refine an ?_ ?_); exact Au))
 refine ret_eq ?_; simp only [go_sem]
 rfl
theorem off_small {ps : List Pr} (hs : Sm ps) : ∀ k, k ≤ ps.length → off ps k ≤ k * 1000000 := by
 intro k
 induction k with
 | zero => intro _; simp [off]
 | succ k ih =>
  intro hk
  rw [off_succ (by omega)]
  have h1 := ih (by omega)
  have h2 := hs.evs _ (List.getElem_mem (show k < ps.length by omega))
  omega
theorem law49_size (ps : List Pr) (hs : Sm ps) : PC Proofs.Tryz.prog 43 [aTr ps] (ai (off ps ps.length)) := by
 have hl := hs.procs
 have hof := off_small hs
 refine PC.enter 20 [.tmp 2] [1, 5] Proofs.Tryz.func43 rfl rfl rfl rfl rfl (by simp) (AWp.of ?_); simp only [go_sem]
 repeat (first | ((with_reducible refine AWp.ofC ?_ ?_); exact rfl; simp only [go_sem]) | ((with_reducible refine an ?_ ?_); exact Au))
 refine AWp.range' ps.length [3] [7, 8] (fun k vs L => L = [] ∧ vs = [ai (off ps k)]) (by omega) rfl rfl rfl ⟨rfl, by simp [off]; rfl⟩ ?_ ?_
 ·rintro k vs L' hk - ⟨rfl, rfl⟩
  have h1 := hof k (by omega)
  have h2 := hs.evs _ (List.getElem_mem hk)
  simp only [go_sem]
  repeat ((with_reducible refine an ?_ ?_); exact As)
  refine AWp.of ?_; simp only [go_sem, getD_map hk]
  repeat ((with_reducible refine an ?_ ?_); exact As)
  intros
  refine AWp.of ?_; simp only [go_sem]
  repeat ((with_reducible refine an ?_ ?_); exact As)
  exact ⟨_, List.Sublist.refl _, rfl, by rw [off_succ hk]; simp⟩
 ·rintro vs L' - ⟨rfl, rfl⟩
  simp only [go_sem]
  repeat (first | ((with_reducible refine AWp.ofC ?_ ?_); exact rfl; simp only [go_sem]) | ((with_reducible refine an ?_ ?_); exact Au))
  refine ret_eq ?_; simp only [go_sem]
end Go.AL
end
section
namespace Go.AL
open Go Go.RowKit
set_option maxRecDepth 4000
mutual
def hugeF : Pd → Int → Int → Int
 | .mk _ _ _ _ _ l, d, c => hugeL l (d + 1) (if 40 < d then 1000 else c + 1)
def hugeL : List Pd → Int → Int → Int
 | [], _, c => c
 | x :: r, d, c => if c ≤ 300 then hugeL r d (hugeF x d c) else c
end
theorem hugeL_nil (d c : Int) : hugeL [] d c = c := by rw [hugeL]
theorem hugeL_cons (x : Pd) (r : List Pd) (d c : Int) : hugeL (x :: r) d c = if c ≤ 300 then hugeL r d (hugeF x d c) else c := by rw [hugeL]
theorem hugeF_spec (t : Pd) : ∀ d c : Int, 0 ≤ c → c ≤ 300 → c + 1 ≤ hugeF t d c ∧ hugeF t d c ≤ 1000 ∧ (hugeF t d c ≤ 300 → (c + szF t : Int) ≤ hugeF t d c) := by
 induction t using Pd.ind with
 | _ k n p q s l ih =>
 intro d c h0 h1
 rw [hugeF, szF]
 have hl : ∀ l' : List Pd, (∀ x ∈ l', x ∈ l) → ∀ c : Int, 0 ≤ c → c ≤ 1000 → c ≤ hugeL l' (d + 1) c ∧ hugeL l' (d + 1) c ≤ 1000 ∧ (hugeL l' (d + 1) c ≤ 300 → (c + szL l' : Int) ≤ hugeL l' (d + 1) c) := by
  intro l'
  induction l' with
  | nil => intro _ c h0 h1; rw [hugeL, szL]; exact ⟨by omega, h1, fun _ => by omega⟩
  | cons x r ihr =>
   intro hm c h0 h1
   rw [hugeL, szL]
   by_cases hc : c ≤ 300
   ·rw [if_pos hc]
    obtain ⟨a1, a2, a3⟩ := ih x (hm x List.mem_cons_self) (d + 1) c h0 hc
    obtain ⟨b1, b2, b3⟩ := ihr (fun y hy => hm y (List.mem_cons_of_mem _ hy)) (hugeF x (d + 1) c) (by omega) a2
    exact ⟨by omega, b2, fun h => by have := b3 h; have := a3 (by omega); omega⟩
   ·rw [if_neg hc]
    exact ⟨by omega, h1, fun h => absurd h hc⟩
 split
 ·obtain ⟨b1, b2, b3⟩ := hl l (fun _ h => h) 1000 (by decide) (by decide)
  exact ⟨by omega, b2, fun h => by omega⟩
 ·obtain ⟨b1, b2, b3⟩ := hl l (fun _ h => h) (c + 1) (by omega) (by omega)
  exact ⟨by omega, b2, fun h => by have := b3 h; omega⟩
theorem hugeL_take {l : List Pd} {d c : Int} : ∀ {i : Nat} (hi : i < l.length), hugeL (l.take (i + 1)) d c = if hugeL (l.take i) d c ≤ 300 then hugeF l[i] d (hugeL (l.take i) d c) else hugeL (l.take i) d c := by
 induction l generalizing c with
 | nil => intro i hi; simp at hi
 | cons x r ih =>
  intro i hi
  cases i with
  | zero =>
   simp only [List.take_succ_cons, List.take_zero, List.getElem_cons_zero, hugeL_cons, hugeL_nil]
  | succ i =>
   simp only [List.take_succ_cons, List.getElem_cons_succ]
   simp only [hugeL_cons]
   by_cases h : c ≤ 300
   ·rw [if_pos h, if_pos h]; exact ih (by simpa using hi)
   ·rw [if_neg h, if_neg h, if_neg h]
theorem hugeL_full {l : List Pd} {d c : Int} {i : Nat} (h : ¬ hugeL (l.take i) d c ≤ 300) : hugeL l d c = hugeL (l.take i) d c := by
 induction l generalizing c i with
 | nil => rw [List.take_nil]
 | cons x r ih =>
  cases i with
  | zero =>
   have e0 : hugeL [] d c = c := by rw [hugeL]
   rw [List.take_zero, e0] at h
   rw [List.take_zero, e0, hugeL, if_neg h]
  | succ i =>
   rw [List.take_succ_cons, hugeL] at *
   rw [hugeL]
   by_cases hc : c ≤ 300
   ·rw [if_pos hc] at h ⊢; rw [if_pos hc]; exact ih h
   ·rw [if_neg hc, if_neg hc]
def aHuge (bn bw : Nat) : AV := .clo 157 [.lp bn 1 0 0, .lp bw 1 0 0]
def Lh (bn bw : Nat) (c : Int) : AHeap := [(bw, .row 104 1 [aHuge bn bw] 1), (bn, .row 3 1 [ai c] 1)]
theorem law49_huge1 (bn bw : Nat) (hb : ¬ bn = bw) (t : Pd) : ∀ d c : Int, 0 ≤ d → d ≤ 41 → 0 ≤ c → c ≤ 300 →
  MCalls Proofs.Tryz.prog 157 [aPd t, ai d, .lp bn 1 0 0, .lp bw 1 0 0] (Lh bn bw c) fun r L => r = .tup [] ∧ L = Lh bn bw (hugeF t d c) := by
 induction t using Pd.ind with
 | _ k n p q s l ih =>
 intro d c d0 d1 c0 c1
 have hb' : ¬ bw = bn := fun e => hb e.symm
 have hsp : hugeF (.mk k n p q s l) d c = hugeL l (d + 1) (if 40 < d then 1000 else c + 1) := by rw [hugeF]
 unfold Lh aHuge at *
 refine MCalls.enter' 31 [] [4] Proofs.Tryz.func157 rfl rfl rfl rfl rfl (by simp) (AWp.of ?_); simp only [go_sem]
 generalize hugeF (.mk k n p q s l) d c = z at *
 repeat ((with_reducible refine an ?_ ?_); exact As)
 refine AWp.of ?_; simp only [go_sem, hb]
 repeat ((with_reducible refine an ?_ ?_); exact As)
 refine AWp.cut [1, 2, 3, 4] (fun vs L => vs = [ai d, .lp bn 1 0 0, .lp bw 1 0 0, .rp 6 [aPd (.mk k n p q s l)] 0 0] ∧ L = [(bw, ABlk.row 104 1 [.clo 157 [.lp bn 1 0 0, .lp bw 1 0 0]] 1), (bn, ABlk.row 3 1 [ai (if 40 < d then 1000 else c + 1)] 1)]) ?_ ?_
 ·repeat (first | ((with_reducible refine AWp.ofC ?_ ?_); exact rfl; simp only [go_sem, hb]) | ((with_reducible refine an ?_ ?_); exact Au))
  refine ⟨fun h1 => ?_, fun h1 => ?_⟩
  ·repeat (first | ((with_reducible refine AWp.ofC ?_ ?_); exact rfl; simp only [go_sem]) | ((with_reducible refine an ?_ ?_); exact Au))
   exact ⟨_, List.Sublist.refl _, by rw [if_pos h1]⟩
  ·exact ⟨_, List.Sublist.refl _, by rw [if_neg h1]⟩
 rintro vs L - ⟨rfl, rfl⟩
 have hd40 : (if 40 < d then 1000 else c + 1) ≤ 300 → d ≤ 40 := by split <;> omega
 have hC : 0 ≤ (if 40 < d then 1000 else c + 1) ∧ (if 40 < d then 1000 else c + 1) ≤ 1000 := by split <;> omega
 generalize (if 40 < d then 1000 else c + 1) = C at *
 simp only [go_sem]
 repeat (first | ((with_reducible refine AWp.ofC ?_ ?_); exact rfl; simp only [go_sem]) | ((with_reducible refine an ?_ ?_); exact Au))
 refine AWp.block (AWp.count 6 l.length [] [1, 2, 3, 4] (fun i vs L => (i : Int) ≤ hugeL (l.take i) (d + 1) C ∧ C ≤ hugeL (l.take i) (d + 1) C ∧ hugeL (l.take i) (d + 1) C ≤ 1000 ∧ L = [(bw, ABlk.row 104 1 [.clo 157 [.lp bn 1 0 0, .lp bw 1 0 0]] 1), (bn, ABlk.row 3 1 [ai (hugeL (l.take i) (d + 1) C)] 1)]) rfl rfl (by rw [List.take_zero, hugeL_nil]; exact ⟨by omega, by omega, by omega, rfl⟩) ?_)
 rintro i vs L hi - ⟨hi1, hi2, hi3, rfl⟩
 have hfull := fun h => hugeL_full (l := l) (d := d + 1) (c := C) (i := i) h
 have htk := fun (h : i < l.length) => hugeL_take (l := l) (d := d + 1) (c := C) h
 have hend : i = l.length → hugeL (l.take i) (d + 1) C = hugeL l (d + 1) C := fun h => by rw [h, List.take_length]
 generalize hugeL (l.take i) (d + 1) C = ci at *
 simp only [go_sem]
 repeat (first | ((with_reducible refine AWp.ofC ?_ ?_); exact rfl; simp only [go_sem, hb]) | ((with_reducible refine an ?_ ?_); exact Au))
 refine ⟨fun h4 h5 => ?_, fun h4 => ?_⟩
 ·have hil : i < l.length := by omega
  have hgi := getD_map (f := aPd) hil
  have hch := ih l[i] (List.getElem_mem hil) (d + 1) ci (by omega) (by omega) (by omega) h5
  have htk := htk hil
  rw [if_pos h5] at htk
  obtain ⟨g1, g2, _⟩ := hugeF_spec l[i] (d + 1) ci (by omega) h5
  generalize hugeF l[i] (d + 1) ci = cn at *
  generalize l[i] = x at *
  obtain ⟨k2, n2, p2, q2, s2, l2⟩ := x
  simp only [aPd_mk] at hgi hch
  refine AWp.seq (AWp.block ?_)
  refine AWp.mix mixed [1, 2, 3, 4, 5, 6, 7] (.step 0 (.step 8 .done .done) .done) (by kernel_rfl) ?_; simp only [go_sem, hgi, hb']
  repeat ((with_reducible refine an ?_ ?_); exact As)
  refine (MCalls.clo hch).mono ?_
  rintro r L ⟨rfl, rfl⟩
  simp only [go_sem]
  repeat (first | ((with_reducible refine AWp.ofC ?_ ?_); exact rfl; simp only [go_sem]) | ((with_reducible refine an ?_ ?_); exact Au))
  exact ⟨_, List.Sublist.refl _, by rw [htk]; omega, by rw [htk]; omega, by rw [htk]; exact g2, by rw [htk]⟩
 ·repeat (first | ((with_reducible refine AWp.ofC ?_ ?_); exact rfl; simp only [go_sem]) | ((with_reducible refine an ?_ ?_); exact Au))
  have hz : z = ci := by
   rw [hsp]
   by_cases e : ci ≤ 300
   ·have : ¬ (i : Int) < l.length := fun h => h4 h e
    rw [hend (by omega)]
   ·exact hfull e
  refine ret_own ?_
  simp only [go_sem]
  rw [hz]
theorem law49_huge (t : Pd) : PC Proofs.Tryz.prog 95 [aPd t] (ab (decide (300 < hugeF t 0 0))) := by
 have hw := fun bn bw hb => law49_huge1 bn bw hb t 0 0 (by decide) (by decide) (by decide) (by decide)
 unfold Lh aHuge at hw
 generalize hugeF t 0 0 = w at *
 obtain ⟨k, n, p, q, s, l⟩ := t
 simp only [aPd_mk] at *
 refine PC.enter 11 [.tmp 2] [1] Proofs.Tryz.func95 rfl rfl rfl rfl rfl (by simp) (AWp.of ?_); simp only [go_sem]
 repeat (first | ((with_reducible refine AWp.ofC ?_ ?_); exact rfl; simp only [go_sem]) | ((with_reducible refine an ?_ ?_); exact Au))
 intro bn
 repeat (first | ((with_reducible refine AWp.ofC ?_ ?_); exact rfl; simp only [go_sem]) | ((with_reducible refine an ?_ ?_); exact Au))
 intro bw hlt
 have hb : ¬ bw = bn := by omega
 have hb' : ¬ bn = bw := by omega
 repeat (first | ((with_reducible refine AWp.ofC ?_ ?_); exact rfl; simp only [go_sem, hb]) | ((with_reducible refine an ?_ ?_); exact Au))
 repeat ((with_reducible refine an ?_ ?_); exact As)
 refine (MCalls.clo (hw bn bw hb')).mono ?_
 rintro r L ⟨rfl, rfl⟩
 simp only [go_sem]
 repeat (first | ((with_reducible refine AWp.ofC ?_ ?_); exact rfl; simp only [go_sem, hb']) | ((with_reducible refine an ?_ ?_); exact Au))
 refine ret_eq ?_; simp only [go_sem]
theorem not_huge {t : Pd} (h : ¬ 300 < hugeF t 0 0) : szF t ≤ 300 := by
 have := (hugeF_spec t 0 0 (by decide) (by decide)).2.2 (by omega)
 omega
end Go.AL
end
section
namespace Go.AL
open Go Go.RowKit
set_option maxRecDepth 4000
def manyG (ts : List Pd) : Bool := decide ((10 : Int) < ts.length) || ts.any fun t => decide (300 < hugeF t 0 0)
theorem manyG_size {ts : List Pd} (h : manyG ts = false) : ts.length ≤ 10 ∧ ∀ t ∈ ts, szF t ≤ 300 := by
 unfold manyG at h
 rw [Bool.or_eq_false_iff, decide_eq_false_iff_not, List.any_eq_false] at h
 exact ⟨by omega, fun t ht => not_huge (by simpa using h.2 t ht)⟩
theorem law49_many (ts : List Pd) : PC Proofs.Tryz.prog 42 [.sl 6 (ts.map aPd)] (ab (manyG ts)) := by
 have h := fun hl => preds_containsFunc ts hl (.v (.func (.func 95) #[] #[])) rfl (fun t => decide (300 < hugeF t 0 0)) fun t _ => (law49_huge t).val
 unfold manyG
 generalize (ts.any fun t => decide (300 < hugeF t 0 0)) = B at *
 refine PC.enter 10 [.tmp 2] [] Proofs.Tryz.func42 rfl rfl rfl rfl rfl (by simp) (AWp.of ?_); simp only [go_sem]
 repeat (first | ((with_reducible refine AWp.ofC ?_ ?_); exact rfl; simp only [go_sem]) | ((with_reducible refine an ?_ ?_); exact Au))
 refine GCall.use (ab B) ?_ ?_
 ·intro g; exact ⟨At, (h (by have := g; simp at this; omega)).val.use ⟨rfl, rfl⟩⟩
 simp only [go_sem]
 repeat (first | ((with_reducible refine AWp.ofC ?_ ?_); exact rfl; simp only [go_sem]) | ((with_reducible refine an ?_ ?_); exact Au))
 refine ret_eq ?_; simp only [go_sem]
end Go.AL
end
section
namespace Go.AL
open Go Go.RowKit
set_option maxRecDepth 4000
abbrev Spn := Int × Int × Int
def spOk (E : Elim) (now : Nat → Nat) (s : Spn) : Bool := !lostB E now && (decide (0 ≤ s.1) && decide (s.1 < E.n) && decide (s.2.1 = now s.1.toNat) && decide (s.2.1 ≤ s.2.2) && decide (s.2.2 ≤ E.top s.1.toNat))
def spEx (E : Elim) (now : Nat → Nat) (s : Spn) : Bool := (List.range (s.2.2.toNat + 1 - s.2.1.toNat)).all fun j => exB E now s.1.toNat (s.2.1.toNat + j)
def endsG (E : Elim) : List Spn → (Nat → Nat) → Bool
 | [], now => lostB E now
 | s :: r, now => if spOk E now s = true ∧ spEx E now s = true then endsG E r (updN now s.1.toNat (s.2.2.toNat + 1)) else false
def satG (ps : List Pr) (E : Elim) (c : List Int) : Bool := isF ps c && (List.range c.length).all fun p => E.ok p (cAt c p).toNat
theorem satG_iff {ps : List Pr} {E : Elim} {c : List Int} : satG ps E c = true ↔ SatD ps E c := by
 unfold satG
 rw [Bool.and_eq_true, isF_iff, List.all_eq_true]
 constructor
 ·rintro ⟨⟨h1, h2, h3⟩, h4⟩
  exact ⟨h1, h2, h3, fun p hp => h4 p (List.mem_range.2 (by omega))⟩
 ·intro h
  exact ⟨⟨h.len, h.rng, h.clo⟩, fun p hp => h.ok p (by have := List.mem_range.1 hp; rw [h.len] at this; exact this)⟩
noncomputable def checkG (ps : List Pr) (ts : List Pd) (a : Ans) : Bool :=
 if conF ps ts = 0 ∧ a.mode = 1 ∧ a.cuts = [] ∧ a.run = [] ∧ a.value = 0 then
  if a.holds = true then decide (a.kind = 1) && decide (a.spans = []) && satG ps (elimOf ps ts) a.cut
  else decide (a.kind = 4) && decide (a.cut = []) && endsG (elimOf ps ts) a.spans fun _ => 0
 else false
section
variable {ps : List Pr} {ts : List Pd}
end
end Go.AL
end
