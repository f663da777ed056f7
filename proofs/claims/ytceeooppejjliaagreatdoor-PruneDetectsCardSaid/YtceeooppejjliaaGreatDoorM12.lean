/- Texts of this claim's proof: WPw2, WTl, WTm, WEf, WEl, WBd. No condition. -/
import Derived.Test.YtceeooppejjliaaGreatDoorM11
import Derived.Test.YtceeooppejjliaaGreatDoorM6
import Derived.Test.YtceeooppejjliaaGreatDoorM9
import Derived.Test.YtceeooppejjliaaGreatDoorM7
section
namespace Go.AL
open Go Go.RowKit
set_option maxRecDepth 4000
theorem rwF_size (c : List Int) (t : Pd) : szF (rwF c t) ≤ 3 * szF t := by
 induction t using Pd.ind with
 | _ k n p q s l ih =>
 have hl : ∀ l' : List Pd, (∀ x ∈ l', x ∈ l) → szL (l'.map (rwF c)) ≤ 3 * szL l' := by
  intro l'
  induction l' with
  | nil => intro _; simp [szL]
  | cons x r ihr =>
   intro h
   rw [List.map_cons, szL, szL]
   have := ih x (h x List.mem_cons_self)
   have := ihr fun y hy => h y (List.mem_cons_of_mem _ hy)
   omega
 rw [rwF, rwL_map]
 split
 ·simp only [szF, szL]; omega
 ·have := hl l fun _ h => h
  simp only [szF]; omega
def pd0 : Pd := .mk 0 0 0 0 ByteArray.empty []
def rwRes (t : Pd) (c : List Int) : Pd × Int :=
 if (!formedB t || !c.all inB) = true then (pd0, 1) else if allB (covB c.length) t = false then (pd0, 2) else if formedB (rwF c t) = false then (pd0, 5) else (rwF c t, 0)
theorem vw_pd0 (L : AHeap) : Vw L aPd0 (aPd pd0) := by
 unfold aPd0 pd0
 rw [aPd_mk]
 exact .mkAgg (Vws.cons (.refl _) (Vws.cons (.refl _) (Vws.cons (.refl _) (Vws.cons (.refl _) (Vws.cons (.refl _) (Vws.cons (.nil 6) .nil))))))
theorem prune_Rewrite (t : Pd) (hz : szF t ≤ 300000) (c : List Int) (hc : c.length ≤ 1000000) : PC Proofs.Tryz.prog 48 [aPd t, aInts c] (.tup [aPd (rwRes t c).1, ai (rwRes t c).2]) := by
 have hf := prune_formed t (by omega)
 have hcn := prune_counts c hc
 have hcv := prune_covered c.length t (by omega)
 have hsz := rwF_size c t
 have hrw := prune_rewrite c hc t (by omega)
 have hf2 := prune_formed (rwF c t) (by omega)
 have hsp : rwRes t c = if (!formedB t || !c.all inB) = true then (pd0, 1) else if allB (covB c.length) t = false then (pd0, 2) else if formedB (rwF c t) = false then (pd0, 5) else (rwF c t, 0) := rfl
 generalize rwRes t c = R at *
 generalize rwF c t = u at *
 generalize allB (covB c.length) t = b2 at *
 generalize formedB t = b1 at *
 generalize c.all inB = b3 at *
 generalize formedB u = b4 at *
 obtain ⟨k, n, p, q, s, l⟩ := t
 obtain ⟨k2, n2, p2, q2, s2, l2⟩ := u
 simp only [aPd_mk] at *
 refine PC.enter 32 [.cell 4 27, .tmp 5] [2, 6] Proofs.Tryz.func48 rfl rfl rfl rfl rfl (by simp) (AWp.of ?_); simp only [go_sem]
 intro d4
 repeat (first | ((with_reducible refine AWp.ofC ?_ ?_); exact rfl; simp only [go_sem]) | ((with_reducible refine an ?_ ?_); exact Au))
 repeat ((with_reducible refine an ?_ ?_); exact As)
 refine (hf).val.use ?_; simp only [go_sem]
 repeat ((with_reducible refine an ?_ ?_); exact As)
 refine GCall.use (ab b3) (fun _ => ⟨At, (hcn).val.use ⟨rfl, rfl⟩⟩) ?_; simp only [go_sem]
 repeat (first | ((with_reducible refine AWp.ofC ?_ ?_); exact rfl; simp only [go_sem]) | ((with_reducible refine an ?_ ?_); exact Au))
 refine ⟨fun h1 => ?_, fun h1 => ?_⟩
 ·have hR : R = (pd0, 1) := by rw [hsp, if_pos]; rcases h1 with h1 | h1 <;> simp [h1]
  rw [hR]
  repeat (first | ((with_reducible refine AWp.ofC ?_ ?_); exact rfl; simp only [go_sem]) | ((with_reducible refine an ?_ ?_); exact Au))
  refine ret_view [] ?_; simp only [go_sem]
  exact .mkTup (Vws.cons (vw_pd0 _) (Vws.refl _))
 intro h2
 rw [h1, h2, if_neg (by decide)] at hsp
 repeat ((with_reducible refine an ?_ ?_); exact As)
 refine (hcv).val.use ?_; simp only [go_sem]
 repeat (first | ((with_reducible refine AWp.ofC ?_ ?_); exact rfl; simp only [go_sem]) | ((with_reducible refine an ?_ ?_); exact Au))
 refine ⟨fun h3 => ?_, fun h3 => ?_⟩
 ·have hR : R = (pd0, 2) := by rw [hsp, if_pos h3]
  rw [hR]
  repeat (first | ((with_reducible refine AWp.ofC ?_ ?_); exact rfl; simp only [go_sem]) | ((with_reducible refine an ?_ ?_); exact Au))
  refine ret_view [] ?_; simp only [go_sem]
  exact .mkTup (Vws.cons (vw_pd0 _) (Vws.refl _))
 rw [if_neg (by rw [h3]; decide)] at hsp
 have hrw := hrw h3
 repeat (first | ((with_reducible refine AWp.ofC ?_ ?_); exact rfl; simp only [go_sem]) | ((with_reducible refine an ?_ ?_); exact Au))
 repeat ((with_reducible refine an ?_ ?_); exact As)
 refine (hrw).val.use ?_; simp only [go_sem]
 repeat ((with_reducible refine an ?_ ?_); exact As)
 intro d6
 try intro _
 repeat (first | ((with_reducible refine AWp.ofC ?_ ?_); exact rfl; simp only [go_sem]) | ((with_reducible refine an ?_ ?_); exact Au))
 repeat ((with_reducible refine an ?_ ?_); exact As)
 refine (hf2).val.use ?_; simp only [go_sem]
 repeat (first | ((with_reducible refine AWp.ofC ?_ ?_); exact rfl; simp only [go_sem]) | ((with_reducible refine an ?_ ?_); exact Au))
 refine ⟨fun h4 => ?_, fun h4 => ?_⟩
 ·have hR : R = (pd0, 5) := by rw [hsp, if_pos h4]
  rw [hR]
  repeat (first | ((with_reducible refine AWp.ofC ?_ ?_); exact rfl; simp only [go_sem]) | ((with_reducible refine an ?_ ?_); exact Au))
  refine ret_view [] ?_; simp only [go_sem]
  exact .mkTup (Vws.cons (vw_pd0 _) (Vws.refl _))
 ·have hR : R = (.mk k2 n2 p2 q2 s2 l2, 0) := by rw [hsp, if_neg (by rw [h4]; decide)]
  rw [hR]
  repeat (first | ((with_reducible refine AWp.ofC ?_ ?_); exact rfl; simp only [go_sem]) | ((with_reducible refine an ?_ ?_); exact Au))
  refine ret_eq ?_; simp only [go_sem]
def shS (c d : List Int) : List Int := List.zipWith (· + ·) c d
def shiftR (c d : List Int) : List Int × Int :=
 if (!decide (c.length = d.length) || decide (8 < c.length)) = true then ([], 1) else if (!c.all inB || !d.all inB) = true then ([], 2) else if (shS c d).all inB = false then ([], 9) else (shS c d, 0)
theorem shS_take {c d : List Int} {i : Nat} (hc : i < c.length) (hd : i < d.length) : (shS c d).take (i + 1) = (shS c d).take i ++ [c[i] + d[i]] := by
 have : i < (shS c d).length := by unfold shS; rw [List.length_zipWith]; omega
 rw [List.take_succ_eq_append_getElem this]
 congr 2
 simp [shS]
theorem shS_length (c d : List Int) (h : c.length = d.length) : (shS c d).length = c.length := by unfold shS; rw [List.length_zipWith]; omega
theorem inB_get {c : List Int} (h : c.all inB = true) {i : Nat} (hi : i < c.length) : 0 ≤ c[i] ∧ c[i] ≤ 64 := by
 have := List.all_eq_true.1 h _ (List.getElem_mem hi)
 simp only [inB, Bool.and_eq_true, decide_eq_true_iff] at this; exact this
theorem prune_Shift (c d : List Int) (hc : c.length ≤ 1000000) (hd : d.length ≤ 1000000) : PC Proofs.Tryz.prog 49 [aInts c, aInts d] (.tup [aInts (shiftR c d).1, ai (shiftR c d).2]) := by
 have h1 := prune_counts c hc
 have h2 := prune_counts d hd
 have hlen := shS_length c d
 have h3 := prune_counts (shS c d)
 have hsp : shiftR c d = if (!decide (c.length = d.length) || decide (8 < c.length)) = true then ([], 1) else if (!c.all inB || !d.all inB) = true then ([], 2) else if (shS c d).all inB = false then ([], 9) else (shS c d, 0) := rfl
 have hbc : c.all inB = true → ∀ {i : Nat} (hi : i < c.length), 0 ≤ c[i] ∧ c[i] ≤ 64 := fun h _ hi => inB_get h hi
 have hbd : d.all inB = true → ∀ {i : Nat} (hi : i < d.length), 0 ≤ d[i] ∧ d[i] ≤ 64 := fun h _ hi => inB_get h hi
 generalize shiftR c d = R at *
 generalize c.all inB = b1 at *
 generalize d.all inB = b2 at *
 refine PC.enter 50 [.tmp 4, .tmp 5] [43] Proofs.Tryz.func49 rfl rfl rfl rfl rfl (by simp) (AWp.of ?_); simp only [go_sem]
 repeat (first | ((with_reducible refine AWp.ofC ?_ ?_); exact rfl; simp only [go_sem]) | ((with_reducible refine an ?_ ?_); exact Au))
 repeat (first | ((with_reducible refine AWp.ofC ?_ ?_); exact rfl; simp only [go_sem]) | ((with_reducible refine an ?_ ?_); exact Au))
 refine ⟨fun k1 => ?_, fun k1 => ?_⟩
 ·have hR : R = ([], 1) := by rw [hsp, if_pos]; rcases k1 with k1 | k1 <;> simp; exact .inl (by omega); exact .inr (by omega)
  rw [hR]
  repeat (first | ((with_reducible refine AWp.ofC ?_ ?_); exact rfl; simp only [go_sem]) | ((with_reducible refine an ?_ ?_); exact Au))
  refine ret_view [] ?_; simp only [go_sem]
  exact .mkTup (Vws.cons (.nil 1) (Vws.refl _))
 intro k2
 have hl : c.length = d.length := by omega
 have hlen := hlen hl
 have h3 := h3 (by omega)
 rw [if_neg (by simp; omega)] at hsp
 repeat ((with_reducible refine an ?_ ?_); exact As)
 refine (h1).val.use ?_; simp only [go_sem]
 repeat ((with_reducible refine an ?_ ?_); exact As)
 refine GCall.use (ab b2) (fun _ => ⟨At, (h2).val.use ⟨rfl, rfl⟩⟩) ?_; simp only [go_sem]
 repeat (first | ((with_reducible refine AWp.ofC ?_ ?_); exact rfl; simp only [go_sem]) | ((with_reducible refine an ?_ ?_); exact Au))
 refine ⟨fun k3 => ?_, fun k3 => ?_⟩
 ·have hR : R = ([], 2) := by rw [hsp, if_pos]; rcases k3 with k3 | k3 <;> simp [k3]
  rw [hR]
  repeat (first | ((with_reducible refine AWp.ofC ?_ ?_); exact rfl; simp only [go_sem]) | ((with_reducible refine an ?_ ?_); exact Au))
  refine ret_view [] ?_; simp only [go_sem]
  exact .mkTup (Vws.cons (.nil 1) (Vws.refl _))
 intro k4
 rw [k3, k4, if_neg (by decide)] at hsp
 have hbc := @hbc k3
 have hbd := @hbd k4
 repeat (first | ((with_reducible refine AWp.ofC ?_ ?_); exact rfl; simp only [go_sem]) | ((with_reducible refine an ?_ ?_); exact Au))
 refine AWp.range' c.length [6] [0, 1, 29] (fun i vs L => ∃ v Ln, vs = [v] ∧ L = Ln ∧ AppSt 3 1 (((shS c d).take i).map ai) v Ln) (by omega) rfl rfl rfl ⟨anil, [], rfl, rfl, .nil⟩ ?_ ?_
 ·rintro i vs L' hi - ⟨v, Ln, rfl, rfl, hA⟩
  have hid : i < d.length := by omega
  have hb1 := hbc hi
  have hb2 := hbd hid
  have hgc := getD_map (f := ai) hi
  have hgd := getD_map (f := ai) hid
  rw [shS_take hi hid, List.map_append]
  have hyl : (((shS c d).take i).map ai).length ≤ 1000000 := by simp; omega
  generalize ((shS c d).take i).map ai = ys at *
  rcases hA.inv with ⟨e1, rfl, rfl⟩ | ⟨b, cap, rfl, rfl⟩
  ·simp only [go_sem]
   repeat ((with_reducible refine an ?_ ?_); exact As)
   refine AWp.of ?_; simp only [go_sem]
   refine AWp.mix mixed [0, 1, 2, 3, 4, 5, 6, 7, 8, 9] (.step 10 (.step 11 (.step 12 .done .done) .done) .done) (by kernel_rfl) ?_; simp only [go_sem, hgc, hgd]
   repeat ((with_reducible refine an ?_ ?_); exact As)
   intro b' cap' _
   repeat ((with_reducible refine an ?_ ?_); exact As)
   refine ⟨_, List.Sublist.refl _, _, [(b', .row 3 1 [ai (c[i] + d[i])] cap')], rfl, rfl, ?_⟩
   rw [e1]
   exact .row _ _ _
  ·simp only [go_sem]
   repeat ((with_reducible refine an ?_ ?_); exact As)
   refine AWp.of ?_; simp only [go_sem]
   refine AWp.mix mixed [0, 1, 2, 3, 4, 5, 6, 7, 8, 9] (.step 10 (.step 11 (.step 12 .done .done) .done) .done) (by kernel_rfl) ?_; simp only [go_sem, hgc, hgd]
   repeat ((with_reducible refine an ?_ ?_); exact As)
   intro b' cap' _
   repeat ((with_reducible refine an ?_ ?_); exact As)
   refine ⟨_, List.Sublist.refl _, _, [(b', .row 3 1 (ys ++ [ai (c[i] + d[i])]) cap')], rfl, rfl, ?_⟩
   have := AppSt.row (t := 3) (k := 1) b' (ys ++ [ai (c[i] + d[i])]) cap'
   simpa using this
 ·rintro vs LL - ⟨v, Ln, rfl, rfl, hA⟩
  rw [List.take_of_length_le (by omega)] at hA
  simp only [go_sem]
  have hvw := hA.vw []
  rw [List.append_nil] at hvw
  have hfo := hA.fo
  refine AWp.viewP (Lf := LL) (Lk := []) (L' := []) (by simp) (LVw.refl _) [(6, .sl 1 ((shS c d).map ai))] (by intro p hp; simp at hp; subst hp; exact hvw) ?_
  generalize (shS c d).all inB = b3 at *
  generalize shS c d = S at *
  simp only [go_sem]
  repeat (first | ((with_reducible refine AWp.ofC ?_ ?_); exact rfl; simp only [go_sem]) | ((with_reducible refine an ?_ ?_); exact Au))
  repeat ((with_reducible refine an ?_ ?_); exact As)
  refine (h3).val.use ?_; simp only [go_sem]
  repeat (first | ((with_reducible refine AWp.ofC ?_ ?_); exact rfl; simp only [go_sem]) | ((with_reducible refine an ?_ ?_); exact Au))
  refine ⟨fun k5 => ?_, fun k5 => ?_⟩
  ·have hR : R = ([], 9) := by rw [hsp, if_pos k5]
   rw [hR]
   repeat (first | ((with_reducible refine AWp.ofC ?_ ?_); exact rfl; simp only [go_sem]) | ((with_reducible refine an ?_ ?_); exact Au))
   refine ret_view [] ?_; simp only [go_sem]
   exact .mkTup (Vws.cons (.nil 1) (Vws.refl _))
  ·have hR : R = (S, 0) := by rw [hsp, if_neg (by rw [k5]; decide)]
   rw [hR]
   repeat (first | ((with_reducible refine AWp.ofC ?_ ?_); exact rfl; simp only [go_sem]) | ((with_reducible refine an ?_ ?_); exact Au))
   refine ret_eq ?_; simp only [go_sem]
def bigB (c d : List Int) (i : Nat) : Bool := ((shS c d).take i).any fun x => decide (64 < x)
end Go.AL
end
section
namespace Go.AL
open Go Go.RowKit
set_option maxRecDepth 4000
theorem closed_iff {ps : List Pr} {c : List Int} : closedF ps c = true ↔ ∀ (p : Nat) (hp : p < ps.length) (i : Nat) (hi : i < ps[p].evs.length), ps[p].evs[i].kind = 3 → (i : Int) + 1 ≤ cAt c p → (sndr ps ps[p].evs[i].msg).2 ≤ cAt c (sndr ps ps[p].evs[i].msg).1 := by
 unfold closedF
 rw [Bool.not_eq_true', List.any_eq_false]
 constructor
 ·intro h p hp i hi hk hc
  have := h _ (List.mem_of_getElem? (evIds_get hp hi))
  unfold badEv at this
  simp only [Bool.and_eq_true, decide_eq_true_eq, not_and] at this
  have := this ⟨hk, hc⟩
  unfold sndr
  omega
 ·intro h x hx
  obtain ⟨k, hk⟩ := List.getElem?_of_mem hx
  obtain ⟨p, hp, i, hi, _, rfl⟩ := evIds_inv hk
  unfold badEv
  simp only [Bool.and_eq_true, decide_eq_true_eq, not_and]
  rintro ⟨h1, h2⟩
  have := h p hp i hi h1 h2
  unfold sndr at this
  omega
theorem inRange_iff {ps : List Pr} {c : List Int} (hc : c.length = ps.length) : inRangeF ps c = true ↔ ∀ (p : Nat) (hp : p < ps.length), 0 ≤ cAt c p ∧ cAt c p ≤ ps[p].evs.length := by
 constructor
 ·intro h p hp
  obtain ⟨h1, h2⟩ := inRangeF_get h hc hp
  rw [cAt_nat (show p < c.length by omega)]
  exact ⟨h1, h2⟩
 ·intro h
  unfold inRangeF
  rw [List.all_eq_true]
  intro p hp
  have hpc := List.mem_range.1 hp
  have hpp : p < ps.length := by omega
  have := h p hpp
  rw [cAt_nat hpc] at this
  unfold cntOk
  simp only [List.getElem?_eq_getElem hpc, List.getElem?_eq_getElem hpp, Bool.and_eq_true, decide_eq_true_eq]
  exact this
def joinL (c d : List Int) : List Int := List.zipWith (fun x y => if x < y then y else x) c d
def subL (c d : List Int) : List Int := List.zipWith (fun x y => x - y) c d
theorem zw_cAt {c d : List Int} {g : Int → Int → Int} (h : c.length = d.length) {p : Nat} (hp : p < c.length) : cAt (List.zipWith g c d) p = g (cAt c p) (cAt d p) := by
 rw [cAt_nat (show p < (List.zipWith g c d).length by rw [List.length_zipWith]; omega), cAt_nat hp, cAt_nat (show p < d.length by omega), List.getElem_zipWith]
section
variable {ps : List Pr} {c j : List Int}
theorem rest_given (hc : givenF ps [c] [] = 0) (hj : givenF ps [j] [] = 0) (hle : ∀ p, p < ps.length → cAt c p ≤ cAt j p) : givenF (dropF ps c) [subL j c] [] = 0 := by
 obtain ⟨hv, hcl, hcr, hcc⟩ := givenF_zero hc
 obtain ⟨_, hjl, hjr, hjc⟩ := givenF_zero hj
 have hm := (valid_parts hv).2.2
 have hul := dropF_length hcl
 have hum := drop_msgF hm hcl hcr
 have hl : (subL j c).length = ps.length := by unfold subL; rw [List.length_zipWith]; omega
 have hs : ∀ p : Nat, p < ps.length → cAt (subL j c) p = cAt j p - cAt c p := fun p hp => zw_cAt (by omega) (by omega)
 rw [givenL]
 refine ⟨⟨drop_valid hv hcl hcr, fun x hx => ?_⟩, fun x hx => ?_, fun x hx => ?_⟩ <;> (simp only [List.mem_singleton] at hx; subst hx)
 ·omega
 ·rw [inRange_iff (by omega)]
  intro p hp'
  have hp : p < ps.length := by omega
  obtain ⟨_, hpc, l1, _⟩ := drop_len hcl hp
  have h1 := (inRange_iff hcl).1 hcr p hp
  have h2 := (inRange_iff hjl).1 hjr p hp
  have h3 := hle p hp
  rw [hs p hp, l1]
  rw [cAt_nat hpc] at *
  omega
 ·rw [closed_iff]
  intro p hp' i hi' hk hlt
  obtain ⟨hp, hpc, hi, e1⟩ := drop_ev hcl hp' hi'
  rw [e1] at hk ⊢
  have d := dropEv_kind (S := sentB ps c) (e := ps[p].evs[c[p].toNat + i])
  obtain ⟨k3, kS⟩ := d.2.1 hk
  rw [d.2.2.2.2 k3 kS]
  obtain ⟨hr1, hr2⟩ := inRangeF_get hcr hcl hp
  obtain ⟨hq, j0, hj0, s1, s2, s3⟩ := recv_peer hm hp hi k3
  obtain ⟨_, hst⟩ := sent_iff hm hcl hp hi k3
  rw [kS, s1] at hst
  have hgt : c[ps[p].evs[c[p].toNat + i].peer.toNat] < (j0 : Int) + 1 := by
   have := hst.symm
   rw [decide_eq_false_iff_not] at this
   simpa using this
  have hcl2 := closed_iff.1 hjc p hp (c[p].toNat + i) hi k3
  rw [hs p hp, cAt_nat hpc] at hlt
  have hcl2 := hcl2 (by omega)
  rw [s1] at hcl2
  simp only at hcl2
  have hq2 : ps[p].evs[c[p].toNat + i].peer.toNat < c.length := by omega
  obtain ⟨hs1, hs2⟩ := inRangeF_get hcr hcl hq
  obtain ⟨hq', _, l1, _⟩ := drop_len hcl hq
  have hjn : j0 - c[ps[p].evs[c[p].toNat + i].peer.toNat].toNat < (dropF ps c)[ps[p].evs[c[p].toNat + i].peer.toNat].evs.length := by omega
  obtain ⟨_, _, hx, e4⟩ := drop_ev hcl hq' hjn
  have idx : c[ps[p].evs[c[p].toNat + i].peer.toNat].toNat + (j0 - c[ps[p].evs[c[p].toNat + i].peer.toNat].toNat) = j0 := by omega
  simp only [idx] at e4
  have d2 := dropEv_kind (S := sentB ps c) (e := ps[ps[p].evs[c[p].toNat + i].peer.toNat].evs[j0])
  rw [d2.2.2.2.1 s2] at e4
  have hu := pair_unique hum hq' hjn (.inl (by rw [e4]; exact s2))
  rw [e4, s2, s3] at hu
  have hsn : sndr (dropF ps c) ps[p].evs[c[p].toNat + i].msg = _ := hu
  rw [hsn]
  simp only
  rw [hs _ hq, cAt_nat hq2]
  omega
end
end Go.AL
end
section
namespace Go.AL
open Go Go.RowKit
set_option maxRecDepth 4000
theorem rwF_mk (c : List Int) (k n p q : Int) (s : ByteArray) (l : List Pd) : rwF c (.mk k n p q s l) = if k = 3 then .mk 6 0 0 0 ByteArray.empty [.mk k n p q s l, .mk 1 (c.getD p.toNat 0) 0 0 ByteArray.empty []] else .mk k n p q s (l.map (rwF c)) := by
 rw [rwF, rwL_map]
theorem rwF_kind (c : List Int) (t : Pd) : (rwF c t).kind = if t.kind = 3 then 6 else t.kind := by
 obtain ⟨k, n, p, q, s, l⟩ := t
 rw [rwF_mk]
 by_cases e : k = 3
 ·rw [if_pos e]; subst e; rfl
 ·rw [if_neg e]; exact (if_neg e).symm
theorem rwF_res (c : List Int) (t : Pd) : resF (rwF c t).kind = resF t.kind := by
 rw [rwF_kind]; split
 ·rename_i h; rw [h]; rfl
 ·rfl
theorem rwF_all {f g : Pd → Bool} (c : List Int) (h6 : ∀ k n p q s l, k = 3 → f (.mk k n p q s l) = true → g (.mk 6 0 0 0 ByteArray.empty [.mk k n p q s l, .mk 1 (c.getD p.toNat 0) 0 0 ByteArray.empty []]) = true ∧ g (.mk k n p q s l) = true ∧ l = [] ∧ g (.mk 1 (c.getD p.toNat 0) 0 0 ByteArray.empty []) = true)
  (ho : ∀ k n p q s l, k ≠ 3 → f (.mk k n p q s l) = true → g (.mk k n p q s (l.map (rwF c))) = true) (t : Pd) : allB f t = true → allB g (rwF c t) = true := by
 induction t using Pd.ind with
 | _ k n p q s l ih =>
  intro h
  obtain ⟨h1, h2⟩ := allB_sub h
  rw [rwF_mk]
  split
  ·rename_i e
   obtain ⟨g1, g2, rfl, g3⟩ := h6 k n p q s l e h1
   rw [allB_mk, g1, Bool.true_and, List.all_cons, List.all_cons, List.all_nil, allB_mk, allB_mk, g2, g3]; rfl
  ·rename_i e
   rw [allB_mk, ho k n p q s l e h1, Bool.true_and, List.all_eq_true]
   intro x hx
   obtain ⟨y, hy, rfl⟩ := List.mem_map.1 hx
   exact ih y hy (h2 y hy)
theorem allB_mono {f g : Pd → Bool} (h : ∀ x, f x = true → g x = true) (t : Pd) : allB f t = true → allB g t = true := by
 induction t using Pd.ind with
 | _ k n p q s l ih =>
  intro ht
  obtain ⟨h1, h2⟩ := allB_sub ht
  rw [allB_mk, h _ h1, Bool.true_and, List.all_eq_true]
  exact fun x hx => ih x hx (h2 x hx)
theorem loc3 {k n p q : Int} {s : ByteArray} {l : List Pd} (h : locB (.mk k n p q s l) = true) (hk : k = 3) : l = [] := by
 obtain ⟨h1, _⟩ := loc_len h
 have : partsF k = 0 := by rw [hk]; rfl
 exact len0 (by omega)
section
variable {ps : List Pr} {c : List Int}
theorem resB_drop (hc : c.length = ps.length) (x : Pd) : resB (dropF ps c) x = resB ps x := by
 obtain ⟨k, n, p, q, s, l⟩ := x
 have hl := dropF_length hc
 have hk : isPB ps.length p = true → knownB (dropF ps c) p s = knownB ps p s := fun h => by
  obtain ⟨i, rfl, hp⟩ := isPB_nat h
  obtain ⟨hp', _, _, _, _, hn, _⟩ := drop_len hc hp
  unfold knownB
  simp only [Int.toNat_natCast, List.getElem?_eq_getElem hp, List.getElem?_eq_getElem hp']
  exact (nmB_fst s _ _ hn).1
 simp only [resB, hl]
 by_cases h : isPB ps.length p = true
 ·rw [hk h]
 ·have : isPB ps.length p = false := by simpa using h
  rw [this]; simp
theorem okT_rw (hc : c.length = ps.length) {t : Pd} (ht : okT ps t = true) (hf : formedB (rwF c t) = true) : okT (dropF ps c) (rwF c t) = true := by
 unfold okT at *
 simp only [Bool.and_eq_true] at *
 obtain ⟨⟨h1, h2⟩, h3⟩ := ht
 refine ⟨⟨?_, ?_⟩, ?_⟩
 ·unfold formedB at hf; simp only [Bool.and_eq_true] at hf; exact hf.2
 ·refine rwF_all (f := andB locB (resB ps)) c (fun k n p q s l e h => ?_) (fun k n p q s l e h => ?_) t (allB_and t h1 h2)
  ·unfold andB at h; rw [Bool.and_eq_true] at h
   refine ⟨rfl, by rw [resB_drop hc]; exact h.2, loc3 h.1 e, rfl⟩
  ·unfold andB at h; rw [Bool.and_eq_true] at h
   rw [resB_drop hc]; exact h.2
 ·refine rwF_all (f := andB locB typB) c (fun k n p q s l e h => ?_) (fun k n p q s l e h => ?_) t (allB_and t h1 h3)
  ·unfold andB at h; rw [Bool.and_eq_true] at h
   obtain rfl := loc3 h.1 e
   subst e
   exact ⟨rfl, rfl, rfl, rfl⟩
  ·unfold andB at h; rw [Bool.and_eq_true] at h
   have ht := h.2
   unfold typB at *
   rw [Bool.not_eq_true', List.any_eq_false] at *
   intro x hx
   obtain ⟨y, hy, rfl⟩ := List.mem_map.1 hx
   have := ht y hy
   unfold tyNe at *
   rw [rwF_res]; exact this
variable {j : List Int} {ch : Int → Int → Int}
end
end Go.AL
end
section
namespace Go.AL
open Go Go.RowKit
set_option maxRecDepth 4000
def closeN (ps : List Pr) : Nat → List Int → List Int
 | 0, c => c
 | n + 1, c => match missF ps c with
  | none => c
  | some x => closeN ps n (c.set x.1.1.toNat x.1.2)
def closeF (ps : List Pr) (c : List Int) : List Int := closeN ps (off ps ps.length) c
theorem sumN_set : ∀ (l : List Nat) (i x : Nat) (h : i < l.length), (l.set i x).sum + l[i] = l.sum + x
 | a :: r, 0, x, _ => by simp only [List.set_cons_zero, List.sum_cons, List.getElem_cons_zero]; omega
 | a :: r, i + 1, x, h => by
  have := sumN_set r i x (by simpa using h)
  simp only [List.set_cons_succ, List.sum_cons, List.getElem_cons_succ]; omega
def totC (c : List Int) : Nat := (c.map Int.toNat).sum
theorem totC_set {c : List Int} {q : Nat} {x : Int} (hq : q < c.length) : totC (c.set q x) + (c[q]).toNat = totC c + x.toNat := by
 unfold totC
 rw [List.map_set]
 have := sumN_set (c.map Int.toNat) q x.toNat (by simpa using hq)
 simpa using this
theorem totC_le0 : ∀ (l : List Pr) (c : List Int), c.length = l.length → (∀ p (hp : p < l.length), c.getD p 0 ≤ l[p].evs.length) → totC c ≤ (l.map fun x => x.evs.length).sum
 | [], [], _, _ => Nat.le_refl _
 | x :: l, a :: c, hl, h => by
  have h0 := h 0 (by simp)
  have ht := totC_le0 l c (by simpa using hl) fun p hp => by
   have := h (p + 1) (by simpa using hp)
   simpa using this
  simp only [List.getElem_cons_zero, List.getD_cons_zero] at h0
  unfold totC at *
  simp only [List.map_cons, List.sum_cons]
  omega
theorem totC_le {ps : List Pr} {c : List Int} (hc : c.length = ps.length) (hr : inRangeF ps c = true) : totC c ≤ off ps ps.length := by
 unfold off
 rw [List.take_length]
 refine totC_le0 ps c hc fun p hp => ?_
 have := ((inRange_iff hc).1 hr p hp).2
 unfold cAt at this
 simpa using this
theorem miss_inv {ps : List Pr} (hv : validF ps = true) {c : List Int} (_hc : c.length = ps.length) {x : Eid × Eid} (h : missF ps c = some x) :
  ∃ (p : Nat) (_ : p < ps.length) (i : Nat) (_ : i < ps[p].evs.length) (q : Nat) (_ : q < ps.length) (j : Nat) (_ : j < ps[q].evs.length), ps[p].evs[i].kind = 3 ∧ (i : Int) + 1 ≤ cAt c p ∧ sndr ps ps[p].evs[i].msg = ((q : Int), (j : Int) + 1) ∧ x = (((q : Int), (j : Int) + 1), ((p : Int), (i : Int) + 1)) ∧ cAt c q < (j : Int) + 1 := by
 unfold missF at h
 rw [Option.map_eq_some_iff] at h
 obtain ⟨y, hy, rfl⟩ := h
 have hb := List.find?_some hy
 obtain ⟨k, hk⟩ := List.getElem?_of_mem (List.mem_of_find?_eq_some hy)
 obtain ⟨p, hp, i, hi, _, rfl⟩ := evIds_inv hk
 unfold badEv at hb
 simp only [Bool.and_eq_true, decide_eq_true_eq] at hb
 obtain ⟨⟨h1, h2⟩, h3⟩ := hb
 obtain ⟨hq, j, hj, e, _, _⟩ := recv_peer (valid_parts hv).2.2 hp hi h1
 have e' : findIn (evIds ps) 2 ps[p].evs[i].msg = ((ps[p].evs[i].peer.toNat : Int), (j : Int) + 1) := e
 rw [e'] at h3
 exact ⟨p, hp, i, hi, _, hq, j, hj, h1, h2, e, by rw [e'], h3⟩
theorem miss_next {ps : List Pr} (hv : validF ps = true) {c : List Int} (hc : c.length = ps.length) (hr : inRangeF ps c = true) {x : Eid × Eid} (h : missF ps c = some x) :
  (c.set x.1.1.toNat x.1.2).length = ps.length ∧ inRangeF ps (c.set x.1.1.toNat x.1.2) = true ∧ totC c < totC (c.set x.1.1.toNat x.1.2) := by
 obtain ⟨p, hp, i, hi, q, hq, j, hj, _, _, _, rfl, h1⟩ := miss_inv hv hc h
 have hl : (c.set q ((j : Int) + 1)).length = ps.length := by rw [List.length_set]; exact hc
 refine ⟨hl, ?_, ?_⟩
 ·rw [Int.toNat_natCast, inRange_iff hl]
  intro r hr'
  rw [cAt_nat (show r < (c.set q ((j : Int) + 1)).length by omega), List.getElem_set]
  split
  ·rename_i e; subst e; omega
  ·have := (inRange_iff hc).1 hr r hr'
   rw [cAt_nat (show r < c.length by omega)] at this
   exact this
 ·have := totC_set (c := c) (q := q) (x := (j : Int) + 1) (by omega)
  rw [cAt_nat (show q < c.length by omega)] at h1
  have h0 := ((inRange_iff hc).1 hr q hq).1
  rw [cAt_nat (show q < c.length by omega)] at h0
  simp only [Int.toNat_natCast]
  have h3 : ((j : Int) + 1).toNat = j + 1 := by omega
  rw [h3] at this
  omega
theorem closeN_more {ps : List Pr} (hv : validF ps = true) : ∀ (n : Nat) (c : List Int), c.length = ps.length → inRangeF ps c = true → off ps ps.length ≤ totC c + n → closeN ps (n + 1) c = closeN ps n c
 | 0, c, hc, hr, hn => by
  unfold closeN
  cases h : missF ps c with
  | none => rfl
  | some x =>
   obtain ⟨a1, a2, a3⟩ := miss_next hv hc hr h
   have := totC_le a1 a2
   omega
 | n + 1, c, hc, hr, hn => by
  rw [closeN]
  conv => rhs; rw [closeN]
  cases h : missF ps c with
  | none => rfl
  | some x =>
   obtain ⟨a1, a2, a3⟩ := miss_next hv hc hr h
   exact closeN_more hv n _ a1 a2 (by omega)
theorem closeN_of {ps : List Pr} (hv : validF ps = true) {c : List Int} (hc : c.length = ps.length) (hr : inRangeF ps c = true) {n : Nat} (h : off ps ps.length ≤ totC c + n) : ∀ k, closeN ps (n + k) c = closeN ps n c
 | 0 => rfl
 | k + 1 => by rw [← Nat.add_assoc, closeN_more hv (n + k) c hc hr (by omega), closeN_of hv hc hr h k]
theorem closeF_step {ps : List Pr} (hv : validF ps = true) {c : List Int} (hc : c.length = ps.length) (hr : inRangeF ps c = true) {x : Eid × Eid} (h : missF ps c = some x) : closeF ps c = closeF ps (c.set x.1.1.toNat x.1.2) := by
 obtain ⟨a1, a2, a3⟩ := miss_next hv hc hr h
 have hle := totC_le a1 a2
 unfold closeF
 obtain ⟨m, hm⟩ : ∃ m, off ps ps.length = m + 1 := ⟨off ps ps.length - 1, by omega⟩
 rw [hm]
 conv => lhs; rw [closeN]
 rw [h]
 exact (closeN_of hv a1 a2 (n := m) (by omega) 1).symm
theorem closeF_none {ps : List Pr} {c : List Int} (h : missF ps c = none) : closeF ps c = c := by
 unfold closeF
 cases off ps ps.length with
 | zero => rfl
 | succ n => rw [closeN, h]
theorem miss_ind {ps : List Pr} (hv : validF ps = true) {M : List Int → Prop} (h0 : ∀ c, c.length = ps.length → inRangeF ps c = true → missF ps c = none → M c)
  (h1 : ∀ c, c.length = ps.length → inRangeF ps c = true → ∀ x, missF ps c = some x → M (c.set x.1.1.toNat x.1.2) → M c) : ∀ c, c.length = ps.length → inRangeF ps c = true → M c := by
 suffices H : ∀ n c, c.length = ps.length → inRangeF ps c = true → off ps ps.length - totC c = n → M c from fun c hc hr => H _ c hc hr rfl
 intro n
 induction n using Nat.strongRecOn with
 | _ n ih =>
  intro c hc hr hn
  cases h : missF ps c with
  | none => exact h0 c hc hr h
  | some x =>
   obtain ⟨a1, a2, a3⟩ := miss_next hv hc hr h
   have := totC_le a1 a2
   exact h1 c hc hr x h (ih _ (by omega) _ a1 a2 rfl)
theorem closeF_ok {ps : List Pr} (hv : validF ps = true) {c : List Int} (hc : c.length = ps.length) (hr : inRangeF ps c = true) : (closeF ps c).length = ps.length ∧ inRangeF ps (closeF ps c) = true ∧ missF ps (closeF ps c) = none := by
 refine miss_ind hv (M := fun c => (closeF ps c).length = ps.length ∧ inRangeF ps (closeF ps c) = true ∧ missF ps (closeF ps c) = none) (fun c hc hr h => ?_) (fun c hc hr x h hm => ?_) c hc hr
 ·rw [closeF_none h]; exact ⟨hc, hr, h⟩
 ·rw [closeF_step hv hc hr h]; exact hm
theorem closeF_ge {ps : List Pr} (hv : validF ps = true) {c : List Int} (hc : c.length = ps.length) (hr : inRangeF ps c = true) : ∀ p, p < ps.length → cAt c p ≤ cAt (closeF ps c) p := by
 refine miss_ind hv (M := fun c => ∀ p, p < ps.length → cAt c p ≤ cAt (closeF ps c) p) (fun c hc hr h p hp => ?_) (fun c hc hr x h hm p hp => ?_) c hc hr
 ·rw [closeF_none h]; exact Int.le_refl _
 ·rw [closeF_step hv hc hr h]
  refine Int.le_trans ?_ (hm p hp)
  obtain ⟨_, _, _, _, q, hq, j, hj, _, _, _, rfl, h1⟩ := miss_inv hv hc h
  rw [Int.toNat_natCast, cAt_nat (show p < (c.set q ((j : Int) + 1)).length by rw [List.length_set]; omega), List.getElem_set]
  split
  ·rename_i e; subst e; omega
  ·rw [cAt_nat (show p < c.length by omega)]; exact Int.le_refl _
theorem closeF_least {ps : List Pr} (hv : validF ps = true) {d : List Int} (_hd : d.length = ps.length) (hcl : closedF ps d = true) {c : List Int} (hc : c.length = ps.length) (hr : inRangeF ps c = true) :
  (∀ p, p < ps.length → cAt c p ≤ cAt d p) → ∀ p, p < ps.length → cAt (closeF ps c) p ≤ cAt d p := by
 refine miss_ind hv (M := fun c => (∀ p, p < ps.length → cAt c p ≤ cAt d p) → ∀ p, p < ps.length → cAt (closeF ps c) p ≤ cAt d p) (fun c hc hr h hle => ?_) (fun c hc hr x h hm hle => ?_) c hc hr
 ·rw [closeF_none h]; exact hle
 ·rw [closeF_step hv hc hr h]
  refine hm fun p hp => ?_
  obtain ⟨a, ha, i, hi, q, hq, j, hj, g1, g2, g3, rfl, h1⟩ := miss_inv hv hc h
  rw [Int.toNat_natCast, cAt_nat (show p < (c.set q ((j : Int) + 1)).length by rw [List.length_set]; omega), List.getElem_set]
  split
  ·rename_i e; subst e
   have := closed_iff.1 hcl a ha i hi g1 (Int.le_trans g2 (hle a ha))
   rw [g3] at this
   exact this
  ·have := hle p hp
   rw [cAt_nat (show p < c.length by omega)] at this
   exact this
theorem closeF_closed {ps : List Pr} (hv : validF ps = true) {c : List Int} (hc : c.length = ps.length) (hr : inRangeF ps c = true) : closedF ps (closeF ps c) = true := by
 rw [closedF_iff, (closeF_ok hv hc hr).2.2]; rfl
end Go.AL
end
section
namespace Go.AL
open Go Go.RowKit
set_option maxRecDepth 4000
structure Elim where
 n : Nat
 top : Nat → Nat
 ok : Nat → Nat → Bool
 need : Nat → Nat → Nat → Int
def exB (E : Elim) (now : Nat → Nat) (p k : Nat) : Bool := !E.ok p k || (List.range E.n).any fun q => decide (q ≠ p) && decide ((k : Int) < E.need q (now q) p)
theorem exB_false {E : Elim} {now : Nat → Nat} {p k : Nat} : exB E now p k = false ↔ E.ok p k = true ∧ ∀ q, q < E.n → q ≠ p → E.need q (now q) p ≤ k := by
 unfold exB
 rw [Bool.or_eq_false_iff, List.any_eq_false]
 constructor
 ·rintro ⟨h1, h2⟩
  refine ⟨by simpa using h1, fun q hq hn => ?_⟩
  have := h2 q (List.mem_range.2 hq)
  simp only [Bool.and_eq_true, decide_eq_true_eq, not_and] at this
  have := this hn
  omega
 ·rintro ⟨h1, h2⟩
  refine ⟨by rw [h1]; rfl, fun q hq => ?_⟩
  simp only [Bool.and_eq_true, decide_eq_true_eq, not_and]
  intro hn
  have := h2 q (List.mem_range.1 hq) hn
  omega
theorem exB_true {E : Elim} {now : Nat → Nat} {p k : Nat} (h : exB E now p k = true) : E.ok p k = false ∨ ∃ q, q < E.n ∧ q ≠ p ∧ (k : Int) < E.need q (now q) p := by
 unfold exB at h
 rw [Bool.or_eq_true, List.any_eq_true] at h
 rcases h with h | ⟨q, hq, h⟩
 ·exact .inl (by simpa using h)
 ·simp only [Bool.and_eq_true, decide_eq_true_eq] at h
  exact .inr ⟨q, List.mem_range.1 hq, h.1, h.2⟩
def nextF (ex : Nat → Bool) (top : Nat) : Nat → Nat → Nat
 | 0, k => k
 | m + 1, k => if k ≤ top ∧ ex k = true then nextF ex top m (k + 1) else k
def nextK (ex : Nat → Bool) (top k : Nat) : Nat := nextF ex top (top + 1 - k) k
section
variable {ex : Nat → Bool} {top k : Nat}
theorem nextK_hit (h : k ≤ top) (he : ex k = true) : nextK ex top k = nextK ex top (k + 1) := by
 unfold nextK
 obtain ⟨m, hm⟩ : ∃ m, top + 1 - k = m + 1 := ⟨top - k, by omega⟩
 rw [hm, nextF, if_pos ⟨h, he⟩, show top + 1 - (k + 1) = m by omega]
theorem nextK_stop (h : ¬ (k ≤ top ∧ ex k = true)) : nextK ex top k = k := by
 unfold nextK
 cases top + 1 - k with
 | zero => rfl
 | succ m => rw [nextF, if_neg h]
theorem nextK_spec : ∀ (m k : Nat), top + 1 - k = m → k ≤ top + 1 → k ≤ nextK ex top k ∧ nextK ex top k ≤ top + 1 ∧ (∀ j, k ≤ j → j < nextK ex top k → ex j = true) ∧ (nextK ex top k ≤ top → ex (nextK ex top k) = false)
 | 0, k, hm, hk => by
  rw [nextK_stop (by omega)]
  exact ⟨Nat.le_refl _, hk, fun j _ _ => by omega, fun h => by omega⟩
 | m + 1, k, hm, hk => by
  by_cases he : ex k = true
  ·rw [nextK_hit (by omega) he]
   obtain ⟨a1, a2, a3, a4⟩ := nextK_spec m (k + 1) (by omega) (by omega)
   refine ⟨by omega, a2, fun j h1 h2 => ?_, a4⟩
   by_cases e : j = k
   ·subst e; exact he
   ·exact a3 j (by omega) h2
  ·rw [nextK_stop (fun h => he h.2)]
   exact ⟨Nat.le_refl _, hk, fun j _ _ => by omega, fun _ => by simpa using he⟩
end
def stepP (E : Elim) (now : Nat → Nat) : Option Nat := (List.range E.n).find? fun p => exB E now p (now p)
def goF (E : Elim) (now : Nat → Nat) (p : Nat) : Nat := nextK (exB E now p) (E.top p) (now p)
def updN (f : Nat → Nat) (p x : Nat) : Nat → Nat := fun q => if q = p then x else f q
theorem updN_self (f : Nat → Nat) (p x : Nat) : updN f p x p = x := if_pos rfl
theorem updN_ne {f : Nat → Nat} {p x q : Nat} (h : q ≠ p) : updN f p x q = f q := if_neg h
theorem find_range {n : Nat} {f : Nat → Bool} {p : Nat} (h : (List.range n).find? f = some p) : p < n ∧ f p = true ∧ ∀ q, q < p → f q = false := by
 rw [List.find?_eq_some_iff_getElem] at h
 obtain ⟨h1, i, hi, e, h2⟩ := h
 rw [List.getElem_range] at e
 subst e
 refine ⟨by simpa using hi, h1, fun q hq => ?_⟩
 have := h2 q hq
 rw [List.getElem_range] at this
 simpa using this
theorem find_range_none {n : Nat} {f : Nat → Bool} (h : (List.range n).find? f = none) : ∀ q, q < n → f q = false := fun q hq => by
 rw [List.find?_eq_none] at h
 simpa using h q (List.mem_range.2 hq)
theorem find_range_of {n : Nat} {f : Nat → Bool} {p : Nat} (hp : p < n) (h : f p = true) (h0 : ∀ q, q < p → f q = false) : (List.range n).find? f = some p := by
 rw [List.find?_eq_some_iff_getElem]
 exact ⟨h, p, by simpa using hp, List.getElem_range _, fun j hj => by rw [List.getElem_range, h0 j hj]; rfl⟩
theorem find_range_no {n : Nat} {f : Nat → Bool} (h0 : ∀ q, q < n → f q = false) : (List.range n).find? f = none := by
 rw [List.find?_eq_none]
 intro x hx
 rw [h0 x (List.mem_range.1 hx)]; decide
abbrev Stp := Nat × Nat × Nat
inductive RunR (E : Elim) : (Nat → Nat) → List Stp → (Nat → Nat) → Bool → Prop
 | stop {now : Nat → Nat} (h : stepP E now = none) : RunR E now [] now false
 | lost {now : Nat → Nat} {p : Nat} (h : stepP E now = some p) (hl : E.top p < goF E now p) : RunR E now [(p, now p, goF E now p - 1)] (updN now p (goF E now p)) true
 | go {now fin : Nat → Nat} {p : Nat} {st : List Stp} {l : Bool} (h : stepP E now = some p) (hl : goF E now p ≤ E.top p) (hr : RunR E (updN now p (goF E now p)) st fin l) : RunR E now ((p, now p, goF E now p - 1) :: st) fin l
def InE (E : Elim) (now : Nat → Nat) : Prop := ∀ q, q < E.n → now q ≤ E.top q
def roomE (E : Elim) (now : Nat → Nat) : Nat := totS E.n fun q => E.top q + 1 - now q
theorem totS_lt {c c' : Nat → Nat} {p : Nat} (h : ∀ q, q ≠ p → c' q = c q) (hp : c' p < c p) : ∀ n, totS n c' + (if p < n then 1 else 0) ≤ totS n c
 | 0 => by simp [totS]
 | n + 1 => by
  have := totS_lt h hp n
  rw [totS_succ, totS_succ]
  by_cases e : n = p
  ·subst e
   rw [if_neg (by omega)] at this
   rw [if_pos (by omega)]; omega
  ·rw [h n e]
   by_cases e2 : p < n
   ·rw [if_pos e2] at this; rw [if_pos (by omega)]; omega
   ·rw [if_neg e2] at this; rw [if_neg (by omega)]; omega
theorem step_inv {E : Elim} {now : Nat → Nat} (hI : InE E now) {p : Nat} (h : stepP E now = some p) :
  p < E.n ∧ exB E now p (now p) = true ∧ (∀ q, q < p → exB E now q (now q) = false) ∧ now p < goF E now p ∧ goF E now p ≤ E.top p + 1 ∧ (∀ j, now p ≤ j → j < goF E now p → exB E now p j = true) ∧ roomE E (updN now p (goF E now p)) < roomE E now := by
 obtain ⟨h1, h2, h3⟩ := find_range h
 have hle := hI p h1
 obtain ⟨a1, a2, a3, a4⟩ := nextK_spec (ex := exB E now p) (top := E.top p) _ (now p) rfl (by omega)
 have hlt : now p < goF E now p := by
  unfold goF
  rw [nextK_hit hle h2]
  obtain ⟨b1, _⟩ := nextK_spec (ex := exB E now p) (top := E.top p) _ (now p + 1) rfl (by omega)
  omega
 refine ⟨h1, h2, h3, hlt, a2, a3, ?_⟩
 unfold roomE
 have := totS_lt (c := fun q => E.top q + 1 - now q) (c' := fun q => E.top q + 1 - updN now p (goF E now p) q) (p := p) (fun q hq => by rw [updN_ne hq]) (by rw [updN_self]; omega) E.n
 rw [if_pos h1] at this
 omega
theorem inE_step {E : Elim} {now : Nat → Nat} (hI : InE E now) {p : Nat} (hl : goF E now p ≤ E.top p) : InE E (updN now p (goF E now p)) := fun q hq => by
 by_cases e : q = p
 ·subst e; rw [updN_self]; exact hl
 ·rw [updN_ne e]; exact hI q hq
theorem run_ex (E : Elim) : ∀ (m : Nat) (now : Nat → Nat), InE E now → roomE E now ≤ m → ∃ st fin l, RunR E now st fin l := by
 intro m
 induction m with
 | zero =>
  intro now hI hm
  cases h : stepP E now with
  | none => exact ⟨_, _, _, .stop h⟩
  | some p => have := (step_inv hI h).2.2.2.2.2.2; omega
 | succ m ih =>
  intro now hI hm
  cases h : stepP E now with
  | none => exact ⟨_, _, _, .stop h⟩
  | some p =>
   have h7 := (step_inv hI h).2.2.2.2.2.2
   by_cases hl : goF E now p ≤ E.top p
   ·obtain ⟨st, fin, l, hr⟩ := ih _ (inE_step hI hl) (by omega)
    exact ⟨_, _, _, .go h hl hr⟩
   ·exact ⟨_, _, _, .lost h (by omega)⟩
theorem inE_zero (E : Elim) : InE E fun _ => 0 := fun _ _ => Nat.zero_le _
open Classical in
noncomputable def stepsF (E : Elim) : List Stp := Classical.choose (run_ex E _ _ (inE_zero E) (Nat.le_refl _))
open Classical in
noncomputable def finF (E : Elim) : Nat → Nat := Classical.choose (Classical.choose_spec (run_ex E _ _ (inE_zero E) (Nat.le_refl _)))
open Classical in
noncomputable def lostF (E : Elim) : Bool := Classical.choose (Classical.choose_spec (Classical.choose_spec (run_ex E _ _ (inE_zero E) (Nat.le_refl _))))
theorem run_spec (E : Elim) : RunR E (fun _ => 0) (stepsF E) (finF E) (lostF E) := Classical.choose_spec (Classical.choose_spec (Classical.choose_spec (run_ex E _ _ (inE_zero E) (Nat.le_refl _))))
theorem run_lost {E : Elim} {now fin : Nat → Nat} {st : List Stp} {l : Bool} (h : RunR E now st fin l) (hI : InE E now) : (l = true ↔ ∃ q, q < E.n ∧ E.top q < fin q) := by
 induction h with
 | stop h =>
  constructor
  ·intro h; cases h
  ·rintro ⟨q, hq, h⟩
   have := hI q hq; omega
 | lost h hl => exact ⟨fun _ => ⟨_, (step_inv hI h).1, by rw [updN_self]; exact hl⟩, fun _ => rfl⟩
 | go h hl hr ih => exact ih (inE_step hI hl)
theorem run_least {E : Elim} {d : Nat → Nat} (hd : ∀ p, p < E.n → d p ≤ E.top p ∧ E.ok p (d p) = true) (hc : ∀ q, q < E.n → ∀ k, k ≤ d q → ∀ p, p < E.n → E.need q k p ≤ d p) {now fin : Nat → Nat} {st : List Stp} {l : Bool} (h : RunR E now st fin l) (hI : InE E now) :
  (∀ p, p < E.n → now p ≤ d p) → l = false ∧ ∀ p, p < E.n → fin p ≤ d p := by
 have key : ∀ now, InE E now → (∀ p, p < E.n → now p ≤ d p) → ∀ p, stepP E now = some p → goF E now p ≤ d p := by
  intro now hI hle p h
  obtain ⟨h1, h2, h3, h4, h5, h6, h7⟩ := step_inv hI h
  rcases Nat.lt_or_ge (d p) (goF E now p) with hlt | hge
  ·have := h6 (d p) (hle p h1) hlt
   rcases exB_true this with e | ⟨q, hq, hn, e⟩
   ·rw [(hd p h1).2] at e; cases e
   ·have := hc q hq (now q) (hle q hq) p h1
    omega
  ·exact hge
 induction h with
 | stop h => exact fun hle => ⟨rfl, hle⟩
 | lost h hl =>
  intro hle
  have := key _ hI hle _ h
  have := (hd _ (step_inv hI h).1).1
  omega
 | go h hl hr ih =>
  intro hle
  refine ih (inE_step hI hl) fun q hq => ?_
  rename_i p' _ _
  have hk := key _ hI hle _ h
  unfold updN
  split
  ·rename_i e; subst e; exact hk
  ·exact hle q hq
theorem run_fin {E : Elim} {now fin : Nat → Nat} {st : List Stp} {l : Bool} (h : RunR E now st fin l) (hI : InE E now) : l = false → InE E fin ∧ ∀ p, p < E.n → exB E fin p (fin p) = false := by
 induction h with
 | stop h => exact fun _ => ⟨hI, find_range_none h⟩
 | lost h hl => exact fun h => by cases h
 | go h hl hr ih => exact ih (inE_step hI hl)
end Go.AL
end
section
namespace Go.AL
open Go Go.RowKit
set_option maxRecDepth 4000
def okL (E : Elim) (p : Nat) : List AV := (List.range (E.top p + 1)).map fun k => ab (E.ok p k)
def okM (E : Elim) : List AV := (List.range E.n).map fun p => .sl 1 (okL E p)
def needL (E : Elim) (q m : Nat) : List AV := (List.range E.n).map fun p => ai (E.need q m p)
def needM (E : Elim) (q : Nat) : List AV := (List.range (E.top q + 1)).map fun m => .sl 1 (needL E q m)
def needT (E : Elim) : List AV := (List.range E.n).map fun q => .sl 1 (needM E q)
theorem okL_len (E : Elim) (p : Nat) : (okL E p).length = E.top p + 1 := by simp [okL]
theorem okM_len (E : Elim) : (okM E).length = E.n := by simp [okM]
theorem needL_len (E : Elim) (q m : Nat) : (needL E q m).length = E.n := by simp [needL]
theorem needM_len (E : Elim) (q : Nat) : (needM E q).length = E.top q + 1 := by simp [needM]
theorem needT_len (E : Elim) : (needT E).length = E.n := by simp [needT]
section
variable {E : Elim} {p q m k : Nat}
theorem okL_get (hk : k ≤ E.top p) : (okL E p).getD k .any = ab (E.ok p k) := map_range_getD (show k < E.top p + 1 by omega) _
theorem okM_get (hp : p < E.n) : (okM E).getD p .any = .sl 1 (okL E p) := map_range_getD hp _
theorem needL_get (hp : p < E.n) : (needL E q m).getD p .any = ai (E.need q m p) := map_range_getD hp _
theorem needM_get (hm : m ≤ E.top q) : (needM E q).getD m .any = .sl 1 (needL E q m) := map_range_getD (show m < E.top q + 1 by omega) _
theorem needT_get (hq : q < E.n) : (needT E).getD q .any = .sl 1 (needM E q) := map_range_getD hq _
end
def aBoard (E : Elim) (now : Nat → Nat) : AV := .rp 3 [.agg [.sl 1 (needT E), .sl 1 (okM E), .sl 1 (dnA E.n now)]] 0 0
structure SmE (E : Elim) : Prop where
 n : E.n ≤ 1000000
 top : ∀ q, E.top q ≤ 1000000
theorem board_excluded (E : Elim) (hE : SmE E) (now : Nat → Nat) (hI : InE E now) (p k : Nat) (hp : p < E.n) (hk : k ≤ E.top p) : PC Proofs.Tryz.prog 142 [aBoard E now, ai p, ai k] (ab (exB E now p k)) := by
 have hn := hE.n
 have htp := hE.top p
 have g1 := okM_get hp
 have g2 := okL_get hk
 have hex : exB E now p k = (!E.ok p k || exB E now p k) := by
  cases h : exB E now p k with
  | true => rw [Bool.or_true]
  | false => rw [(exB_false.1 h).1]; rfl
 have hf := exB_false (E := E) (now := now) (p := p) (k := k)
 unfold aBoard
 generalize exB E now p k = B at *
 refine PC.enter 51 [.tmp 6] [] Proofs.Tryz.func142 rfl rfl rfl rfl rfl (by simp) (AWp.of ?_); simp only [go_sem]
 repeat (first | ((with_reducible refine AWp.ofC ?_ ?_); exact rfl; simp only [go_sem, g1, g2, okL_len, okM_len]) | ((with_reducible refine an ?_ ?_); exact Au))
 refine ⟨fun h1 => ?_, fun h1 => ?_⟩
 ·repeat (first | ((with_reducible refine AWp.ofC ?_ ?_); exact rfl; simp only [go_sem]) | ((with_reducible refine an ?_ ?_); exact Au))
  refine ret_eq ?_; simp only [go_sem]
  rw [hex, h1]; rfl
 ·repeat (first | ((with_reducible refine AWp.ofC ?_ ?_); exact rfl; simp only [go_sem, dnA_length]) | ((with_reducible refine an ?_ ?_); exact Au))
  refine AWp.range' E.n [] [0, 1, 2, 23, 24] (fun q vs L => L = [] ∧ ∀ j, j < q → j ≠ p → E.need j (now j) p ≤ k) (by omega) rfl rfl rfl ⟨rfl, fun j hj => by omega⟩ ?_ ?_
  ·rintro q vs L hq - ⟨rfl, hJ⟩
   have n1 := dnA_get hq now
   have hnq := hI q hq
   have htq := hE.top q
   have g3 := needT_get hq
   have g4 := needM_get hnq
   have g5 := needL_get (q := q) (m := now q) hp
   by_cases e : q = p
   ·subst e
    simp only [go_sem]
    repeat ((with_reducible refine an ?_ ?_); exact As)
    refine AWp.of ?_; simp only [go_sem, n1, dnA_length]
    repeat (first | ((with_reducible refine AWp.ofC ?_ ?_); exact rfl; simp only [go_sem, g3, g4, g5, needL_len, needM_len, needT_len]) | ((with_reducible refine an ?_ ?_); exact Au))
    exact ⟨_, List.Sublist.refl _, rfl, fun j hj hn => hJ j (by omega) hn⟩
   ·have ei : ¬ (q : Int) = p := by omega
    simp only [go_sem]
    repeat ((with_reducible refine an ?_ ?_); exact As)
    refine AWp.of ?_; simp only [go_sem, n1, dnA_length]
    repeat (first | ((with_reducible refine AWp.ofC ?_ ?_); exact rfl; simp only [go_sem, ei, g3, g4, g5, needL_len, needM_len, needT_len]) | ((with_reducible refine an ?_ ?_); exact Au))
    refine ⟨fun h2 => ?_, fun h2 => ?_⟩
    ·repeat (first | ((with_reducible refine AWp.ofC ?_ ?_); exact rfl; simp only [go_sem]) | ((with_reducible refine an ?_ ?_); exact Au))
     refine ret_eq ?_; simp only [go_sem]
     cases B with
     | true => rfl
     | false => have := (hf.1 rfl).2 q hq e; omega
    ·refine ⟨_, List.Sublist.refl _, rfl, fun j hj hn => ?_⟩
     by_cases ej : j = q
     ·subst ej; omega
     ·exact hJ j (by omega) hn
  ·rintro vs L - ⟨rfl, hJ⟩
   simp only [go_sem]
   repeat (first | ((with_reducible refine AWp.ofC ?_ ?_); exact rfl; simp only [go_sem]) | ((with_reducible refine an ?_ ?_); exact Au))
   refine ret_eq ?_; simp only [go_sem]
   rw [hf.2 ⟨by simpa using h1, fun q hq hn => hJ q hq hn⟩]
theorem board_left (E : Elim) (hE : SmE E) (now : Nat → Nat) (hnow : ∀ q, q < E.n → now q ≤ 1000001) (p : Nat) (hp : p < E.n) : PC Proofs.Tryz.prog 129 [aBoard E now, ai p] (ab (decide (now p < E.top p + 1))) := by
 have hn := hE.n
 have htp := hE.top p
 have hnp := hnow p hp
 have g0 := dnA_get hp now
 have g1 := okM_get hp
 unfold aBoard
 refine PC.enter 21 [.tmp 4] [] Proofs.Tryz.func129 rfl rfl rfl rfl rfl (by simp) (AWp.of ?_); simp only [go_sem]
 refine AWp.seq ?_
 refine AWp.mix mixed [0, 1, 2, 3, 4, 5, 6, 7, 8, 9, 10, 11, 12, 13, 14, 15, 16] .done (by kernel_rfl) ?_; simp only [go_sem, g0, g1, dnA_length, okL_len, okM_len]
 repeat ((with_reducible refine an ?_ ?_); exact As)
 repeat (first | ((with_reducible refine AWp.ofC ?_ ?_); exact rfl; simp only [go_sem]) | ((with_reducible refine an ?_ ?_); exact Au))
 refine ret_eq ?_; simp only [go_sem]
 congr 2; simp only [decide_eq_decide]; omega
def lostB (E : Elim) (now : Nat → Nat) : Bool := (List.range E.n).any fun q => decide (E.top q < now q)
theorem board_lost (E : Elim) (hE : SmE E) (now : Nat → Nat) (hnow : ∀ q, q < E.n → now q ≤ 1000001) : PC Proofs.Tryz.prog 71 [aBoard E now] (ab (lostB E now)) := by
 have hn := hE.n
 have hleft := fun p hp => board_left E hE now hnow p hp
 have hl : aBoard E now = .rp 3 [.agg [.sl 1 (needT E), .sl 1 (okM E), .sl 1 (dnA E.n now)]] 0 0 := rfl
 have h1 : ∀ q, q < E.n → E.top q < now q → lostB E now = true := fun q hq h => List.any_eq_true.2 ⟨q, List.mem_range.2 hq, decide_eq_true h⟩
 have h0 : (∀ q, q < E.n → ¬ E.top q < now q) → lostB E now = false := fun h => List.any_eq_false.2 fun q hq => by simpa using h q (List.mem_range.1 hq)
 generalize lostB E now = B at *
 rw [hl] at *
 refine PC.enter 17 [.tmp 2] [] Proofs.Tryz.func71 rfl rfl rfl rfl rfl (by simp) (AWp.of ?_); simp only [go_sem]
 repeat (first | ((with_reducible refine AWp.ofC ?_ ?_); exact rfl; simp only [go_sem, dnA_length]) | ((with_reducible refine an ?_ ?_); exact Au))
 refine AWp.range' E.n [] [0, 8] (fun q vs L => L = [] ∧ ∀ j, j < q → ¬ E.top j < now j) (by omega) rfl rfl rfl ⟨rfl, fun j hj => by omega⟩ ?_ ?_
 ·rintro q vs L hq - ⟨rfl, hJ⟩
  simp only [go_sem]
  repeat (first | ((with_reducible refine AWp.ofC ?_ ?_); exact rfl; simp only [go_sem]) | ((with_reducible refine an ?_ ?_); exact Au))
  repeat ((with_reducible refine an ?_ ?_); exact As)
  refine (hleft q hq).val.use ?_; simp only [go_sem]
  repeat (first | ((with_reducible refine AWp.ofC ?_ ?_); exact rfl; simp only [go_sem]) | ((with_reducible refine an ?_ ?_); exact Au))
  refine ⟨fun h2 => ?_, fun h2 => ?_⟩
  ·repeat (first | ((with_reducible refine AWp.ofC ?_ ?_); exact rfl; simp only [go_sem]) | ((with_reducible refine an ?_ ?_); exact Au))
   refine ret_eq ?_; simp only [go_sem]
   rw [h1 q hq (by omega)]
  ·refine ⟨_, List.Sublist.refl _, rfl, fun j hj => ?_⟩
   by_cases ej : j = q
   ·subst ej; omega
   ·exact hJ j (by omega)
 ·rintro vs L - ⟨rfl, hJ⟩
  simp only [go_sem]
  repeat (first | ((with_reducible refine AWp.ofC ?_ ?_); exact rfl; simp only [go_sem]) | ((with_reducible refine an ?_ ?_); exact Au))
  refine ret_eq ?_; simp only [go_sem]
  rw [h0 hJ]
def boardL (E : Elim) (now : Nat → Nat) (bb bn : Nat) : AHeap := [(bb, .row 116 3 [.agg [.sl 1 (needT E), .sl 1 (okM E), .ls bn 1 0 E.n E.n]] 1), (bn, .row 3 1 (dnA E.n now) E.n)]
end Go.AL
end
