/- Texts of this claim's proof: WEx, WSs, WSp, WRr, WEy, WPq, WDx, WPu, WSd, WXe. No condition. -/
import Derived.Test.YtkijaghkhjoomaaGreatM8
import Derived.Test.YtkijaghkhjoomaaGreatM6
import Derived.Test.YtkijaghkhjoomaaGreatM14
import Derived.Test.YtkijaghkhjoomaaGreatM9
import Derived.Test.YtkijaghkhjoomaaGreatM7
import Derived.Test.YtkijaghkhjoomaaGreatM10
import Derived.Test.YtkijaghkhjoomaaGreatM11
import Derived.Test.YtkijaghkhjoomaaGreatM12
import Derived.Test.YtkijaghkhjoomaaGreatM13
section
/- The reference of layer 37: faults, and which states are excluded. No condition. -/
namespace Go.AL
open Go Go.RowKit
set_option maxRecDepth 4000
end Go.AL
end
section
/- The package conjunctive: the board of a trace and locals, the steps, the answer. No condition. -/
namespace Go.AL
open Go Go.RowKit
set_option maxRecDepth 4000
def anilp : AV := .v (.pointer none)
def okK (E : Elim) (m : Nat) : List AV := (List.range m).map fun q => .sl 1 (okL E q)
end Go.AL
end
section
/- The package conjunctive: what Possibly and Steps return. No condition. -/
namespace Go.AL
open Go Go.RowKit
set_option maxRecDepth 4000
noncomputable def aPossR (ps : List Pr) (ts : List Pd) : AV := if conF ps ts = 0 then .tup [aAns (ansOf (elimOf ps ts)), ai 0] else .tup [aAns noAns, ai (conF ps ts)]
end Go.AL
end
section
/- How many steps an elimination has. Plain law. No condition. -/
namespace Go.AL
open Go Go.RowKit
set_option maxRecDepth 4000
end Go.AL
end
section
/- The reference of layer 37: steps of elimination. No condition. -/
namespace Go.AL
open Go Go.RowKit
set_option maxRecDepth 4000
end Go.AL
end
section
/- Whether a cut may be dropped: the package prune and the reference of layer 49. No condition. -/
namespace Go.AL
open Go Go.RowKit
set_option maxRecDepth 4000
def leqF (a b : List Int) : Bool := decide (a.length = b.length) && (List.range a.length).all fun i => decide (a.getD i 0 ≤ b.getD i 0)
theorem leqF_ne {a b : List Int} (h : ¬ a.length = b.length) : leqF a b = false := by unfold leqF; rw [decide_eq_false h]; rfl
theorem leqF_no {a b : List Int} {i : Nat} (hi : i < a.length) (h : b.getD i 0 < a.getD i 0) : leqF a b = false := by
  unfold leqF
  rw [List.all_eq_false.2 ⟨i, List.mem_range.2 hi, by simpa using h⟩, Bool.and_false]
theorem leqF_yes {a b : List Int} (hl : a.length = b.length) (h : ∀ i, i < a.length → a.getD i 0 ≤ b.getD i 0) : leqF a b = true := by
  unfold leqF
  rw [decide_eq_true hl, Bool.true_and, List.all_eq_true]
  exact fun i hi => decide_eq_true (h i (List.mem_range.1 hi))
theorem leqF_iff {a b : List Int} : leqF a b = true ↔ a.length = b.length ∧ ∀ i, i < a.length → a.getD i 0 ≤ b.getD i 0 := by
  unfold leqF
  rw [Bool.and_eq_true, List.all_eq_true, decide_eq_true_eq]
  exact ⟨fun h => ⟨h.1, fun i hi => of_decide_eq_true (h.2 i (List.mem_range.2 hi))⟩, fun h => ⟨h.1, fun i hi => decide_eq_true (h.2 i (List.mem_range.1 hi))⟩⟩
theorem getD_ai2 {x : List Int} {i : Nat} (hi : i < x.length) : (x.map ai).getD i .any = ai (x.getD i 0) := by
  rw [getD_map hi, List.getD_eq_getElem?_getD, List.getElem?_eq_getElem hi]; rfl
theorem cut_Leq (a b : List Int) (ha : a.length ≤ 1000000) : PC Go.Proofs.Tryz.prog 48 [aInts a, aInts b] (ab (leqF a b)) := by
  by_cases hl : a.length = b.length
  · have hli : (a.length : Int) = b.length := by omega
    have hno := fun i hi h => leqF_no (a := a) (b := b) (i := i) hi h
    have hyes := leqF_yes hl
    generalize leqF a b = B at *
    refine PC.enter 26 [.tmp 4] [] Go.Proofs.Tryz.func48 rfl rfl rfl rfl rfl (by simp) (AWp.of ?_); simp only [go_sem]
    repeat (first | ((with_reducible refine AWp.ofC ?_ ?_); (focus exact rfl); simp only [go_sem, hli]) | ((with_reducible refine an ?_ ?_); focus exact Au))
    refine AWp.range' b.length [] [0, 1, 12] (fun i vs L => L = [] ∧ ∀ j, j < i → a.getD j 0 ≤ b.getD j 0) (by omega) rfl rfl rfl ⟨rfl, fun j h => by omega⟩ ?_ ?_
    · rintro i vs L hi - ⟨rfl, hJ⟩
      have ga := getD_ai2 (show i < a.length by omega)
      have gb := getD_ai2 hi
      have hno := hno i (by omega)
      simp only [go_sem]
      repeat (first | ((with_reducible refine AWp.ofC ?_ ?_); (focus exact rfl); simp only [go_sem]) | ((with_reducible refine an ?_ ?_); focus exact Au))
      refine AWp.seq ?_
      refine AWp.mix mixed [0, 1, 2, 3, 4, 5, 6, 7, 8] .done (by kernel_rfl) ?_; simp only [go_sem, ga, gb, hli]
      repeat ((with_reducible refine an ?_ ?_); focus exact As)
      repeat (first | ((with_reducible refine AWp.ofC ?_ ?_); (focus exact rfl); simp only [go_sem]) | ((with_reducible refine an ?_ ?_); focus exact Au))
      refine ⟨fun h1 => ?_, fun h1 => ?_⟩
      · repeat (first | ((with_reducible refine AWp.ofC ?_ ?_); (focus exact rfl); simp only [go_sem]) | ((with_reducible refine an ?_ ?_); focus exact Au))
        refine ret_eq ?_; simp only [go_sem]
        rw [hno h1]
      · refine ⟨_, List.Sublist.refl _, rfl, fun j hj => ?_⟩
        by_cases e : j = i
        · subst e; omega
        · exact hJ j (by omega)
    · rintro vs L - ⟨rfl, hJ⟩
      simp only [go_sem]
      repeat (first | ((with_reducible refine AWp.ofC ?_ ?_); (focus exact rfl); simp only [go_sem]) | ((with_reducible refine an ?_ ?_); focus exact Au))
      refine ret_eq ?_; simp only [go_sem]
      rw [hyes fun i hi => hJ i (by omega)]
  · have hli : ¬ (a.length : Int) = b.length := by omega
    rw [leqF_ne hl]
    refine PC.enter 26 [.tmp 4] [] Go.Proofs.Tryz.func48 rfl rfl rfl rfl rfl (by simp) (AWp.of ?_); simp only [go_sem]
    repeat (first | ((with_reducible refine AWp.ofC ?_ ?_); (focus exact rfl); simp only [go_sem, hli]) | ((with_reducible refine an ?_ ?_); focus exact Au))
    refine ret_eq ?_; simp only [go_sem]
noncomputable def safeF (ps : List Pr) (ts : List Pd) (c : List Int) : Bool := lostF (elimOf ps ts) || leqF c (cutL ps.length (finF (elimOf ps ts)))
noncomputable def safeE (ps : List Pr) (ts : List Pd) (c : List Int) : Int := if conF ps ts ≠ 0 then conF ps ts else givenF ps [c] []
end Go.AL
end
section
/- Detection goes on after dropping. Plain laws. No condition. -/
namespace Go.AL
open Go Go.RowKit
set_option maxRecDepth 4000
section
variable {ps : List Pr} {c : List Int}
theorem cut_inB (hc : givenF ps [c] [] = 0) : c.all inB = true := by
  obtain ⟨hv, hcl, hcr, _⟩ := givenF_zero hc
  rw [List.all_eq_true]
  intro x hx
  obtain ⟨p, hp, rfl⟩ := List.getElem_of_mem hx
  have hpp : p < ps.length := by omega
  obtain ⟨b1, b2⟩ := inRangeF_get hcr hcl hpp
  obtain ⟨_, _, _, b3⟩ := (procF_parts hpp).1 (procF_of_valid hv hpp)
  unfold inB
  simp only [Bool.and_eq_true, decide_eq_true_eq]
  omega
/-! ### Cuts of the dropped trace -/
/-- A cut of the dropped trace, with what was dropped, is a cut. -/
theorem back_given (hc : givenF ps [c] [] = 0) {d : List Int} (hd : givenF (dropF ps c) [d] [] = 0) : givenF ps [shS d c] [] = 0 ∧ ∀ p, p < ps.length → cAt (shS d c) p = cAt d p + cAt c p := by
  obtain ⟨hv, hcl, hcr, hcc⟩ := givenF_zero hc
  obtain ⟨_, hdl, hdr, hdc⟩ := givenF_zero hd
  have hm := (valid_parts hv).2.2
  have hul := dropF_length hcl
  have hum := drop_msgF hm hcl hcr
  have hl : (shS d c).length = ps.length := by rw [shS_length d c (by omega)]; omega
  have hs : ∀ p : Nat, p < ps.length → cAt (shS d c) p = cAt d p + cAt c p := fun p hp => zw_cAt (by omega) (by omega)
  have hcrr := (inRange_iff hcl).1 hcr
  have hdrr := (inRange_iff hdl).1 hdr
  refine ⟨?_, hs⟩
  rw [givenL]
  refine ⟨⟨hv, fun x hx => ?_⟩, fun x hx => ?_, fun x hx => ?_⟩ <;> (simp only [List.mem_singleton] at hx; subst hx)
  · exact hl
  · rw [inRange_iff hl]
    intro p hp
    obtain ⟨hp', hpc, l1, _⟩ := drop_len hcl hp
    have h1 := hcrr p hp
    have h2 := hdrr p hp'
    rw [hs p hp]
    rw [cAt_nat hpc] at *
    omega
  · rw [closed_iff]
    intro p hp i hi hk hle
    obtain ⟨hq, j, hj, s1, s2, s3⟩ := recv_peer hm hp hi hk
    rw [s1]
    simp only
    rw [hs _ hq]
    have hdq := (hdrr _ (show ps[p].evs[i].peer.toNat < (dropF ps c).length by omega)).1
    by_cases hic : (i : Int) + 1 ≤ cAt c p
    · have h1 := closed_iff.1 hcc p hp i hi hk hic
      rw [s1] at h1
      simp only at h1
      omega
    · obtain ⟨hp', hpc, l1, _⟩ := drop_len hcl hp
      obtain ⟨hr1, hr2⟩ := inRangeF_get hcr hcl hp
      have hcp := cAt_nat hpc
      obtain ⟨i', rfl⟩ : ∃ i', i = c[p].toNat + i' := ⟨i - c[p].toNat, by omega⟩
      have hi' : i' < (dropF ps c)[p].evs.length := by omega
      obtain ⟨_, _, _, e1⟩ := drop_ev hcl hp' hi'
      obtain ⟨_, hst⟩ := sent_iff hm hcl hp hi hk
      rw [s1] at hst
      have hq2 : ps[p].evs[c[p].toNat + i'].peer.toNat < c.length := by omega
      have hcq := cAt_nat hq2
      cases hS : sentB ps c ps[p].evs[c[p].toNat + i'].msg with
      | true =>
        rw [hS] at hst
        have := hst.symm
        rw [decide_eq_true_eq] at this
        have h9 : (j : Int) + 1 ≤ c[ps[p].evs[c[p].toNat + i'].peer.toNat] := by simpa using this
        omega
      | false =>
        have dk := dropEv_kind (S := sentB ps c) (e := ps[p].evs[c[p].toNat + i'])
        have e2 := dk.2.2.2.2 hk hS
        rw [e2] at e1
        have hgt : c[ps[p].evs[c[p].toNat + i'].peer.toNat] < (j : Int) + 1 := by
          rw [hS] at hst
          have := hst.symm
          rw [decide_eq_false_iff_not] at this
          simpa using this
        obtain ⟨hs1, hs2⟩ := inRangeF_get hcr hcl hq
        obtain ⟨hq', _, l2, _⟩ := drop_len hcl hq
        have hjn : j - c[ps[p].evs[c[p].toNat + i'].peer.toNat].toNat < (dropF ps c)[ps[p].evs[c[p].toNat + i'].peer.toNat].evs.length := by omega
        obtain ⟨_, _, hx, e4⟩ := drop_ev hcl hq' hjn
        have idx : c[ps[p].evs[c[p].toNat + i'].peer.toNat].toNat + (j - c[ps[p].evs[c[p].toNat + i'].peer.toNat].toNat) = j := by omega
        simp only [idx] at e4
        have d2 := dropEv_kind (S := sentB ps c) (e := ps[ps[p].evs[c[p].toNat + i'].peer.toNat].evs[j])
        rw [d2.2.2.2.1 s2] at e4
        have hu := pair_unique hum hq' hjn (.inl (by rw [e4]; exact s2))
        rw [e4, s2, s3] at hu
        have hsn : sndr (dropF ps c) ps[p].evs[c[p].toNat + i'].msg = _ := hu
        have hle2 : (i' : Int) + 1 ≤ cAt d p := by rw [hs p hp] at hle; omega
        have h8 := closed_iff.1 hdc p hp' i' hi' (by rw [e1]; exact hk) hle2
        rw [e1, hsn] at h8
        simp only at h8
        omega
end
end Go.AL
end
section
/- The cuts that contain what was dropped remain: plain laws. No condition. -/
namespace Go.AL
open Go Go.RowKit
set_option maxRecDepth 4000
/-! ### The order of the list of cuts -/
def ordL (a b : List Int) : Prop := a.sum < b.sum ∨ (a.sum = b.sum ∧ cmpL a b < 0)
theorem ordL_irr {a : List Int} (h : ordL a a) : False := by
  rcases h with h | ⟨_, h⟩
  · omega
  · rw [cmpL_irr] at h; omega
theorem ordL_trans {a b c : List Int} (h : ordL a b) (g : ordL b c) : ordL a c := by
  rcases h with h | ⟨h1, h2⟩ <;> rcases g with g | ⟨g1, g2⟩
  · exact .inl (by omega)
  · exact .inl (by omega)
  · exact .inl (by omega)
  · exact .inr ⟨by omega, cmpL_trans _ _ _ h2 g2⟩
theorem ord_eq {l m : List (List Int)} (h1 : l.Pairwise ordL) (h2 : m.Pairwise ordL) (h : ∀ x, x ∈ l ↔ x ∈ m) : l = m := by
  have hn : ∀ {l : List (List Int)}, l.Pairwise ordL → l.Nodup := fun {l} h => h.imp fun {a b} hab e => by subst e; exact ordL_irr hab
  have hp : l.Perm m := (List.perm_ext_iff_of_nodup (hn h1) (hn h2)).2 h
  exact hp.eq_of_pairwise (fun a b _ _ h3 h4 => (ordL_irr (ordL_trans h3 h4)).elim) h1 h2
theorem cum_ord {ps : List Pr} (hv : validF ps = true) : ∀ n, (cumF ps n).Pairwise ordL ∧ ∀ x ∈ cumF ps n, x.sum < n
  | 0 => ⟨List.Pairwise.nil, fun x hx => by cases hx⟩
  | n + 1 => by
    obtain ⟨h1, h2⟩ := cum_ord hv n
    rw [cumF_succ]
    have hl : ∀ x ∈ levF ps n, x.sum = n := fun x hx => ((mem_levF hv n x).1 hx).2
    refine ⟨List.pairwise_append.2 ⟨h1, ?_, fun x hx y hy => .inl (by rw [hl y hy]; exact h2 x hx)⟩, fun x hx => ?_⟩
    · refine (asc_lev hv n).imp_of_mem fun {a b} ha hb hab => .inr ⟨by rw [hl a ha, hl b hb], hab⟩
    · rcases List.mem_append.1 hx with hx | hx
      · have := h2 x hx; omega
      · have := hl x hx; omega
theorem cuts_ord {ps : List Pr} (hv : validF ps = true) : (cutsF ps).Pairwise ordL := (cum_ord hv _).1
theorem shS_sum : ∀ {a c : List Int}, a.length = c.length → (shS a c).sum = a.sum + c.sum
  | [], [], _ => rfl
  | [], _ :: _, h => by simp at h
  | _ :: _, [], h => by simp at h
  | x :: a, y :: c, h => by
    have := shS_sum (a := a) (c := c) (by simpa using h)
    unfold shS at *
    rw [List.zipWith_cons_cons, List.sum_cons, List.sum_cons, List.sum_cons, this]
    omega
theorem shS_cmp : ∀ {a b c : List Int}, a.length = c.length → b.length = c.length → cmpL (shS a c) (shS b c) = cmpL a b
  | [], [], _, _, _ => by unfold shS; simp
  | [], _ :: _, c, h, g => by rw [← h] at g; simp at g
  | _ :: _, [], c, h, g => by rw [← g] at h; simp at h
  | _ :: _, _ :: _, [], h, _ => by simp at h
  | x :: a, y :: b, z :: c, h, g => by
    have := shS_cmp (a := a) (b := b) (c := c) (by simpa using h) (by simpa using g)
    unfold shS at *
    rw [List.zipWith_cons_cons, List.zipWith_cons_cons, cmpL_cons, cmpL_cons, this]
    by_cases h1 : x < y
    · rw [if_pos h1, if_pos (by omega)]
    · rw [if_neg h1, if_neg (by omega)]
      by_cases h2 : y < x
      · rw [if_pos h2, if_pos (by omega)]
      · rw [if_neg h2, if_neg (by omega)]
theorem ord_sh {a b c : List Int} (ha : a.length = c.length) (hb : b.length = c.length) (h : ordL a b) : ordL (shS a c) (shS b c) := by
  unfold ordL
  rw [shS_sum ha, shS_sum hb, shS_cmp ha hb]
  rcases h with h | ⟨h1, h2⟩
  · exact .inl (by omega)
  · exact .inr ⟨by omega, h2⟩
theorem isF_given {ps : List Pr} (hv : validF ps = true) {c : List Int} : givenF ps [c] [] = 0 ↔ isF ps c = true := by
  rw [givenL, isF_iff]; simp [hv]
theorem sub_sh {x c : List Int} (h : x.length = c.length) : shS (subL x c) c = x := by
  unfold shS subL
  apply List.ext_getElem
  · simp; omega
  · intro i h1 h2
    rw [List.getElem_zipWith, List.getElem_zipWith]; omega
/-- The cuts of the dropped trace, shifted, are those that contain what was dropped, in the same order. -/
theorem cuts_drop {ps : List Pr} {c : List Int} (hc : givenF ps [c] [] = 0) : (cutsF ps).filter (leqF c) = (cutsF (dropF ps c)).map fun y => shS y c := by
  obtain ⟨hv, hcl, hcr, hcc⟩ := givenF_zero hc
  have hv2 := drop_valid hv hcl hcr
  have hul := dropF_length hcl
  have hlen : ∀ y ∈ cutsF (dropF ps c), y.length = c.length := fun y hy => by rw [(isF_iff.1 ((mem_cutsF hv2).1 hy)).1]; omega
  refine ord_eq ((cuts_ord hv).filter _) (List.pairwise_map.2 ((cuts_ord hv2).imp_of_mem fun {a b} ha hb hab => ord_sh (hlen a ha) (hlen b hb) hab)) fun x => ?_
  rw [List.mem_filter, List.mem_map, mem_cutsF hv]
  constructor
  · rintro ⟨hx, hle⟩
    obtain ⟨e1, e2⟩ := leqF_iff.1 hle
    have hxl := (isF_iff.1 hx).1
    refine ⟨subL x c, (mem_cutsF hv2).2 ((isF_given hv2).1 (rest_given hc ((isF_given hv).2 hx) fun p hp => e2 p (by omega))), sub_sh (by omega)⟩
  · rintro ⟨y, hy, rfl⟩
    have hyi := (mem_cutsF hv2).1 hy
    obtain ⟨b1, b2⟩ := back_given hc ((isF_given hv2).2 hyi)
    have hyl := hlen y hy
    refine ⟨(isF_given hv).1 b1, leqF_iff.2 ⟨by rw [shS_length y c hyl]; omega, fun i hi => ?_⟩⟩
    have := b2 i (by omega)
    have h0 := ((inRange_iff (isF_iff.1 hyi).1).1 (isF_iff.1 hyi).2.1 i (by omega)).1
    show cAt c i ≤ cAt (shS y c) i
    omega
/-! ### Dropping twice -/
theorem sentP_split (S : Int → Bool) (x : Pr) (n k : Nat) (m : Int) : sentP x (n + k) m = (sentP x n m || sentP (dropP S x n) k m) := by
  unfold sentP dropP
  simp only
  rw [List.take_add, List.any_append, ← List.map_take, List.any_map]
  congr 2
  funext e
  unfold Function.comp dropEv
  split
  · rename_i h; simp [h.1]
  · rfl
theorem sentB_iff {ps : List Pr} {c : List Int} (hc : c.length = ps.length) {m : Int} : sentB ps c m = true ↔ ∃ (p : Nat) (hp : p < ps.length), sentP ps[p] (cAt c p).toNat m = true := by
  unfold sentB
  rw [List.any_eq_true]
  constructor
  · rintro ⟨x, hx, h⟩
    obtain ⟨p, hp, rfl⟩ := List.getElem_of_mem hx
    rw [List.getElem_zip] at h
    have hp2 : p < ps.length ∧ p < c.length := by rw [List.length_zip] at hp; omega
    exact ⟨p, hp2.1, by rw [cAt_nat hp2.2]; exact h⟩
  · rintro ⟨p, hp, h⟩
    have hz : p < (ps.zip c).length := by rw [List.length_zip]; omega
    refine ⟨(ps.zip c)[p], List.getElem_mem hz, ?_⟩
    rw [List.getElem_zip]
    rw [cAt_nat (by omega)] at h
    exact h
theorem dropEv_two {S S1 S2 : Int → Bool} (h : ∀ m, S m = (S1 m || S2 m)) (e : Ev) : dropEv S2 (dropEv S1 e) = dropEv S e := by
  have := h e.msg
  unfold dropEv
  by_cases h3 : e.kind = 3
  · cases h1 : S1 e.msg <;> cases h2 : S2 e.msg <;> simp [h3, h1, h2, this]
  · simp [h3]
theorem dropP_two {S S1 S2 : Int → Bool} (h : ∀ m, S m = (S1 m || S2 m)) (x : Pr) (n k : Nat) : dropP S2 (dropP S1 x n) k = dropP S x (n + k) := by
  have hd := dropP_vars S1 x n
  have hst := stateAt_drop S1 x n k
  have he : ((dropP S1 x n).evs.drop k).map (dropEv S2) = (x.evs.drop (n + k)).map (dropEv S) := by
    show (((x.evs.drop n).map (dropEv S1)).drop k).map _ = _
    rw [← List.map_drop, List.map_map, List.drop_drop]
    congr 1
    funext e
    exact dropEv_two h e
  show (⟨(dropP S1 x n).name, ((dropP S1 x n).vars.map (·.1)).zip (stateAt (dropP S1 x n) k), ((dropP S1 x n).evs.drop k).map (dropEv S2)⟩ : Pr) = ⟨x.name, (x.vars.map (·.1)).zip (stateAt x (n + k)), (x.evs.drop (n + k)).map (dropEv S)⟩
  rw [hd.1, hst, hd.2.2.1, he]
theorem drop_two {ps : List Pr} {c j : List Int} (hc : c.length = ps.length) (hj : j.length = ps.length) (hle : ∀ p, p < ps.length → 0 ≤ cAt c p ∧ cAt c p ≤ cAt j p) : dropF (dropF ps c) (subL j c) = dropF ps j := by
  have hul := dropF_length hc
  have hsl : (subL j c).length = ps.length := by unfold subL; rw [List.length_zipWith]; omega
  have hsa : ∀ p, p < ps.length → (cAt j p).toNat = (cAt c p).toNat + (cAt (subL j c) p).toNat := fun p hp => by
    have : cAt (subL j c) p = cAt j p - cAt c p := zw_cAt (by omega) (by omega)
    have := hle p hp
    omega
  have hS : ∀ m, sentB ps j m = (sentB ps c m || sentB (dropF ps c) (subL j c) m) := fun m => by
    rw [Bool.eq_iff_iff, Bool.or_eq_true, sentB_iff hj, sentB_iff hc, sentB_iff (by omega)]
    constructor
    · rintro ⟨p, hp, h⟩
      rw [hsa p hp, sentP_split (sentB ps c), Bool.or_eq_true] at h
      rcases h with h | h
      · exact .inl ⟨p, hp, h⟩
      · refine .inr ⟨p, by omega, ?_⟩
        rw [dropF_get hc hp]
        rwa [cAt_nat (by omega)] at h
    · rintro (⟨p, hp, h⟩ | ⟨p, hp', h⟩)
      · exact ⟨p, hp, by rw [hsa p hp, sentP_split (sentB ps c), h]; rfl⟩
      · have hp : p < ps.length := by omega
        refine ⟨p, hp, ?_⟩
        rw [hsa p hp, sentP_split (sentB ps c), Bool.or_eq_true]
        rw [dropF_get hc hp] at h
        exact .inr (by rw [cAt_nat (show p < c.length by omega)]; exact h)
  apply List.ext_getElem
  · rw [dropF_length (by omega), dropF_length hj]; exact hul
  · intro p h1 h2
    have hp : p < ps.length := by rw [dropF_length hj] at h2; exact h2
    have hpu : p < (dropF ps c).length := by omega
    rw [dropF_get (by omega) hpu, dropF_get hj hp, ← cAt_nat (show p < (subL j c).length by omega), ← cAt_nat (show p < j.length by omega)]
    rw [dropF_get hc hp, ← cAt_nat (show p < c.length by omega)]
    rw [dropP_two hS, ← hsa p hp]
end Go.AL
end
section
/- The dropped trace is small, as the trace is. No condition. -/
namespace Go.AL
open Go Go.RowKit
set_option maxRecDepth 4000
theorem Sm.drop {ps : List Pr} (hs : Sm ps) (c : List Int) : Sm (dropF ps c) := by
  have hx : ∀ x ∈ dropF ps c, ∃ y ∈ ps, ∃ n, x = dropP (sentB ps c) y n := by
    intro x hx
    unfold dropF dropS at hx
    obtain ⟨y, hy, rfl⟩ := List.mem_map.1 hx
    exact ⟨y.1, (List.of_mem_zip hy).1, _, rfl⟩
  refine ⟨?_, ?_, ?_, ?_⟩
  · have := hs.procs; unfold dropF dropS; rw [List.length_map, List.length_zip]; omega
  · intro x h
    obtain ⟨y, hy, n, rfl⟩ := hx x h
    have := hs.evs y hy
    show ((y.evs.drop n).map _).length ≤ _
    rw [List.length_map, List.length_drop]; omega
  · intro x h
    obtain ⟨y, hy, n, rfl⟩ := hx x h
    have := hs.vars y hy
    show ((y.vars.map _).zip _).length ≤ _
    rw [List.length_zip, List.length_map]; omega
  · intro x h e he
    obtain ⟨y, hy, n, rfl⟩ := hx x h
    obtain ⟨z, hz, rfl⟩ := List.mem_map.1 he
    have := hs.asg y hy z (List.mem_of_mem_drop hz)
    unfold dropEv
    split <;> exact this
end Go.AL
end
section
/- The law PruneCuts: the walk. No condition. -/
namespace Go.AL
open Go Go.RowKit
set_option maxRecDepth 4000
theorem filter_at {α : Type} {p : α → Bool} {l : List α} {i : Nat} (hi : i < l.length) (h : p l[i] = true) : (l.filter p)[((l.take i).filter p).length]? = some l[i] ∧ ((l.take (i + 1)).filter p).length = ((l.take i).filter p).length + 1 := by
  have h1 : (l.take (i + 1)).filter p = (l.take i).filter p ++ [l[i]] := by
    rw [List.take_succ_eq_append_getElem hi, List.filter_append]; simp [h]
  refine ⟨?_, by rw [h1, List.length_append]; rfl⟩
  have h2 : l.filter p = (l.take (i + 1)).filter p ++ (l.drop (i + 1)).filter p := by rw [← List.filter_append, List.take_append_drop]
  rw [h2, h1, List.append_assoc, List.getElem?_append_right (Nat.le_refl _), Nat.sub_self]; rfl
theorem filter_no {α : Type} {p : α → Bool} {l : List α} {i : Nat} (hi : i < l.length) (h : p l[i] = false) : ((l.take (i + 1)).filter p).length = ((l.take i).filter p).length := by
  rw [List.take_succ_eq_append_getElem hi, List.filter_append]; simp [h]
/-- What the walk needs of the cuts: a cut that contains c is the shifted cut of the dropped trace at its place. -/
theorem cuts_meet {ps : List Pr} {c : List Int} (hc : givenF ps [c] [] = 0) {A B : List (List Int)} (hA : A = cutsF ps) (hB : B = cutsF (dropF ps c)) :
    (A.filter (leqF c)).length = B.length ∧ ∀ (i : Nat) (hi : i < A.length), leqF c A[i] = true → ∃ hk : ((A.take i).filter (leqF c)).length < B.length, shiftR B[((A.take i).filter (leqF c)).length] c = (A[i], 0) := by
  obtain ⟨hv, hcl, hcr, hcc⟩ := givenF_zero hc
  have hv2 := drop_valid hv hcl hcr
  have hul := dropF_length hcl
  have h8 := (valid_len hv).2
  have h := cuts_drop hc
  rw [← hA, ← hB] at h
  have hl : (A.filter (leqF c)).length = B.length := by rw [h, List.length_map]
  refine ⟨hl, fun i hi hle => ?_⟩
  obtain ⟨h1, _⟩ := filter_at (p := leqF c) hi hle
  obtain ⟨hk, he⟩ := List.getElem?_eq_some_iff.1 h1
  generalize ((A.take i).filter (leqF c)).length = k at *
  have hkB : k < B.length := by omega
  refine ⟨hkB, ?_⟩
  have he2 : shS B[k] c = A[i] := by
    rw [← he]
    have : (A.filter (leqF c))[k]? = (B.map fun y => shS y c)[k]? := by rw [h]
    rw [List.getElem?_eq_getElem hk, List.getElem?_map, List.getElem?_eq_getElem hkB] at this
    exact (Option.some.inj this).symm
  have m1 : isF (dropF ps c) B[k] = true := (mem_cutsF hv2).1 (by rw [← hB]; exact List.getElem_mem hkB)
  have m2 : isF ps A[i] = true := (mem_cutsF hv).1 (by rw [← hA]; exact List.getElem_mem hi)
  have i1 := cut_inB hc
  have i2 := cut_inB ((isF_given hv2).2 m1)
  have i3 := cut_inB ((isF_given hv).2 m2)
  have hbl := (isF_iff.1 m1).1
  unfold shiftR
  rw [he2, i1, i2, i3, decide_eq_true (show B[k].length = c.length by omega), decide_eq_false (show ¬ 8 < B[k].length by omega)]
  simp
set_option maxHeartbeats 4000000 in
theorem law49_PruneCuts (ps : List Pr) (c d : List Int) : PC Go.Proofs.Tryz.prog 7 [aTr ps, aInts c, aInts d] (ab true) := by
  have haw := law49_awake
  have hbig := law49_big ps
  have hsm := @bigF_sm ps
  have hsize := fun h => law49_size ps h
  have hfc := fun h => ref25_CutFault ps h c
  have hfd := fun h => ref25_CutFault ps h d
  refine PC.enter 190 [.tmp 6] [3, 7, 22, 23] Go.Proofs.Tryz.func7 rfl rfl rfl rfl rfl (by simp) (AWp.of ?_); simp only [go_sem]
  repeat (first | ((with_reducible refine AWp.ofC ?_ ?_); (focus exact rfl); simp only [go_sem]) | ((with_reducible refine an ?_ ?_); focus exact Au))
  repeat ((with_reducible refine an ?_ ?_); focus exact As)
  refine (haw).val.use ?_; simp only [go_sem]
  repeat (first | ((with_reducible refine AWp.ofC ?_ ?_); (focus exact rfl); simp only [go_sem]) | ((with_reducible refine an ?_ ?_); focus exact Au))
  repeat ((with_reducible refine an ?_ ?_); focus exact As)
  refine (hbig).val.use ?_; simp only [go_sem]
  repeat ((with_reducible refine an ?_ ?_); focus exact As)
  refine GCall.use (ai (off ps ps.length)) ?_ ?_
  · intro g; exact ⟨At, (hsize (hsm g)).val.use ⟨rfl, rfl⟩⟩
  simp only [go_sem]
  repeat ((with_reducible refine an ?_ ?_); focus exact As)
  refine GCall.use (ai (givenF ps [c] [])) ?_ ?_
  · intro g; exact ⟨At, (hfc (hsm g.1)).val.use ⟨rfl, rfl⟩⟩
  simp only [go_sem]
  repeat ((with_reducible refine an ?_ ?_); focus exact As)
  refine GCall.use (ai (givenF ps [d] [])) ?_ ?_
  · intro g; exact ⟨At, (hfd (hsm g.1.1)).val.use ⟨rfl, rfl⟩⟩
  simp only [go_sem]
  repeat ((with_reducible refine an ?_ ?_); focus exact As)
  repeat (first | ((with_reducible refine AWp.ofC ?_ ?_); (focus exact rfl); simp only [go_sem]) | ((with_reducible refine an ?_ ?_); focus exact Au))
  refine ⟨fun h1 => ?_, fun h1 => ?_⟩
  · repeat (first | ((with_reducible refine AWp.ofC ?_ ?_); (focus exact rfl); simp only [go_sem]) | ((with_reducible refine an ?_ ?_); focus exact Au))
    refine ret_eq ?_; simp only [go_sem]
  intro h2 h4 h5
  have hs := hsm h1
  obtain ⟨hv, hcl, hcr, _⟩ := givenF_zero h4
  obtain ⟨_, hdl, _, _⟩ := givenF_zero h5
  have hpl : ps.length ≤ 8 := (valid_len hv).2
  have hjg := join_given h4 h5
  have hjl := join_len (c := c) (d := d) (by omega)
  have hle : ∀ p, p < ps.length → cAt c p ≤ cAt (joinL c d) p := fun p hp => by rw [join_cAt (by omega) (by omega)]; split <;> omega
  have hD := prune_Drop ps hs c (by omega)
  have hDe : aDrop ps c = .tup [aTr (dropF ps c), ai 0] := by unfold aDrop; rw [if_neg (by simpa using h4)]
  rw [hDe] at hD
  have hJ := cut_Join ps hs c d
  have hJe : aComb ps c d (fun x y => if x < y then y else x) = .tup [aInts (joinL c d), ai 0] := by unfold aComb; rw [if_neg (by simpa using given1 h4 h5)]; rfl
  rw [hJe] at hJ
  have hul := dropF_length hcl
  have hv2 := drop_valid hv hcl hcr
  have hV := ref12_Valid (dropF ps c) (hs.drop c)
  rw [hv2] at hV
  have hL1 := cuts_List ps hs
  have hL2 := cuts_List (dropF ps c) (hs.drop c)
  unfold aLst at hL1 hL2
  have hD2 := prune_Drop (dropF ps c) (hs.drop c) (subL (joinL c d) c) (by unfold subL; rw [List.length_zipWith]; omega)
  have hD2e : aDrop (dropF ps c) (subL (joinL c d) c) = .tup [aTr (dropF (dropF ps c) (subL (joinL c d) c)), ai 0] := by unfold aDrop; rw [if_neg (by simpa using rest_given h4 hjg hle)]
  have h2x : dropF (dropF ps c) (subL (joinL c d) c) = dropF ps (joinL c d) := drop_two hcl (by omega) fun p hp => ⟨((inRange_iff hcl).1 hcr p hp).1, hle p hp⟩
  rw [hD2e, h2x] at hD2
  have hD3 := prune_Drop ps hs (joinL c d) (by omega)
  have hD3e : aDrop ps (joinL c d) = .tup [aTr (dropF ps (joinL c d)), ai 0] := by unfold aDrop; rw [if_neg (by simpa using hjg)]
  rw [hD3e] at hD3
  have hS := ref12_Same (dropF ps (joinL c d)) (dropF ps (joinL c d)) (hs.drop _)
  rw [decide_eq_true rfl] at hS
  have hjr := (givenF_zero hjg).2.2.1
  have hli : ((dropF ps c).length : Int) = ps.length := by omega
  have hR : ∀ x : List (List Int), aRows x = .sl 1 (x.map aInts) := fun _ => rfl
  have hM := fun A B => cuts_meet h4 (A := A) (B := B)
  have hE1 : lstE ps = 0 ∨ lstE ps = 16 := by unfold lstE; rw [hv, if_pos rfl]; split <;> simp
  have hE2 : lstE (dropF ps c) = 0 ∨ lstE (dropF ps c) = 16 := by unfold lstE; rw [hv2, if_pos rfl]; split <;> simp
  have hE3 : lstE ps = 0 → lstE (dropF ps c) = 0 ∧ lstF ps = cutsF ps ∧ lstF (dropF ps c) = cutsF (dropF ps c) ∧ (cutsF ps).length ≤ 5000 := fun h => by
    have h5k := (lst_zero.1 h).2
    have hl := (hM _ _ rfl rfl).1
    have := List.length_filter_le (leqF c) (cutsF ps)
    have e2 : lstE (dropF ps c) = 0 := lst_zero.2 ⟨hv2, by omega⟩
    refine ⟨e2, ?_, ?_, h5k⟩
    · unfold lstF; rw [h, if_pos rfl]
    · unfold lstF; rw [e2, if_pos rfl]
  have hcb : ∀ x ∈ cutsF ps, x.length ≤ 1000000 := fun x hx => by have := (isF_iff.1 ((mem_cutsF hv).1 hx)).1; omega
  have hcb2 : ∀ x ∈ cutsF (dropF ps c), x.length ≤ 1000000 := fun x hx => by have := (isF_iff.1 ((mem_cutsF hv2).1 hx)).1; omega
  clear haw hbig hsize hfc hfd hsm hDe hJe hD2e hD3e h2x
  have hcj : c.length = (joinL c d).length := by omega
  have hsl : (subL (joinL c d) c).length = (joinL c d).length := by unfold subL; rw [List.length_zipWith]; omega
  have hsg : ∀ i (hi : i < (joinL c d).length), (subL (joinL c d) c)[i]? = some ((joinL c d)[i] - c[i]'(by rw [hcj]; exact hi)) := fun i hi => by rw [List.getElem?_eq_getElem (by omega)]; unfold subL; rw [List.getElem_zipWith]
  generalize dropF ps (joinL c d) = V at *
  generalize subL (joinL c d) c = z at *
  generalize joinL c d = j at *
  have hci : (j.length : Int) = c.length := by omega
  have hj64 : ∀ i (hi : i < j.length), 0 ≤ j[i] ∧ j[i] ≤ 1000000 ∧ 0 ≤ c[i]'(by rw [hcj]; exact hi) ∧ c[i]'(by rw [hcj]; exact hi) ≤ 1000000 := fun i hi => by
    have hp : i < ps.length := by omega
    obtain ⟨x1, x2⟩ := inRangeF_get hjr (by omega) hp
    obtain ⟨y1, y2⟩ := inRangeF_get hcr hcl hp
    have := hs.evs _ (List.getElem_mem hp)
    exact ⟨x1, by omega, y1, by omega⟩
  have hM := hM (cutsF ps) (cutsF (dropF ps c)) rfl rfl
  generalize cutsF (dropF ps c) = B at *
  generalize cutsF ps = A at *
  generalize dropF ps c = U at *
  refine AWp.only [1, 2, 3] ?_
  simp only [go_sem]
  repeat (first | ((with_reducible refine AWp.ofC ?_ ?_); (focus exact rfl); simp only [go_sem]) | ((with_reducible refine an ?_ ?_); focus exact Au))
  repeat ((with_reducible refine an ?_ ?_); focus exact As)
  refine (hD).val.use ?_; simp only [go_sem]
  repeat (first | ((with_reducible refine AWp.ofC ?_ ?_); (focus exact rfl); simp only [go_sem]) | ((with_reducible refine an ?_ ?_); focus exact Au))
  intro b7
  repeat (first | ((with_reducible refine AWp.ofC ?_ ?_); (focus exact rfl); simp only [go_sem]) | ((with_reducible refine an ?_ ?_); focus exact Au))
  repeat ((with_reducible refine an ?_ ?_); focus exact As)
  refine GCall.use (ab true) (fun _ => ⟨At, (hV).val.use ⟨rfl, rfl⟩⟩) ?_; simp only [go_sem]
  repeat (first | ((with_reducible refine AWp.ofC ?_ ?_); (focus exact rfl); simp only [go_sem, hli]) | ((with_reducible refine an ?_ ?_); focus exact Au))
  rcases hE1 with e1 | e1
  · obtain ⟨e2, e3, e4, e5⟩ := hE3 e1
    rw [e1, e3] at hL1
    rw [e2, e4] at hL2
    clear hE3 hE2 e3 e4 e1 e2
    obtain ⟨hM1, hM2⟩ := hM
    repeat ((with_reducible refine an ?_ ?_); focus exact As)
    refine (hL1).val.use ?_; simp only [go_sem]
    repeat (first | ((with_reducible refine AWp.ofC ?_ ?_); (focus exact rfl); simp only [go_sem]) | ((with_reducible refine an ?_ ?_); focus exact Au))
    repeat ((with_reducible refine an ?_ ?_); focus exact As)
    refine (hL2).val.use ?_; simp only [go_sem]
    repeat (first | ((with_reducible refine AWp.ofC ?_ ?_); (focus exact rfl); simp only [go_sem, Int.reduceEq]) | ((with_reducible refine an ?_ ?_); focus exact Au))
    refine AWp.range' A.length [13] [1, 2, 3, 7, 11, 92, 93] (fun i vs L => L = [] ∧ vs = [ai (((A.take i).filter (leqF c)).length : Nat)]) (by omega) rfl rfl rfl ⟨rfl, rfl⟩ ?_ ?_
    · rintro i vs L hi - ⟨rfl, rfl⟩
      have hg := getD_map (f := aInts) hi
      have hLq := cut_Leq c A[i] (by omega)
      have hM2i := hM2 i hi
      have hf1 := fun h => (filter_at (p := leqF c) hi h).2
      have hf2 := fun h => filter_no (p := leqF c) hi h
      have hEq := ints_equal A[i] A[i] (hcb _ (List.getElem_mem hi))
      have hfl := List.length_filter_le (leqF c) (A.take i)
      rw [List.length_take] at hfl
      rw [decide_eq_true rfl] at hEq
      generalize ((A.take (i + 1)).filter (leqF c)).length = k1 at *
      generalize ((A.take i).filter (leqF c)).length = k at *
      generalize A[i] = x at *
      simp only [go_sem]
      repeat (first | ((with_reducible refine AWp.ofC ?_ ?_); (focus exact rfl); simp only [go_sem, hg]) | ((with_reducible refine an ?_ ?_); focus exact Au))
      repeat ((with_reducible refine an ?_ ?_); focus exact As)
      refine (hLq).val.use ?_; simp only [go_sem]
      cases hle2 : leqF c x with
      | false =>
        rw [hf2 hle2]
        repeat (first | ((with_reducible refine AWp.ofC ?_ ?_); (focus exact rfl); simp only [go_sem]) | ((with_reducible refine an ?_ ?_); focus exact Au))
        exact ⟨_, List.Sublist.refl _, rfl⟩
      | true =>
        obtain ⟨hkB, hsh⟩ := hM2i hle2
        have hSh := prune_Shift B[k] c (hcb2 _ (List.getElem_mem hkB)) (by omega)
        rw [hsh] at hSh
        simp only at hSh
        have hgB := getD_map (f := aInts) hkB
        rw [hf1 hle2]
        have hng : ¬ ((B.length : Int) ≤ k) := by omega
        repeat (first | ((with_reducible refine AWp.ofC ?_ ?_); (focus exact rfl); simp only [go_sem, hng, hgB]) | ((with_reducible refine an ?_ ?_); focus exact Au))
        repeat ((with_reducible refine an ?_ ?_); focus exact As)
        refine (hSh).val.use ?_; simp only [go_sem]
        repeat (first | ((with_reducible refine AWp.ofC ?_ ?_); (focus exact rfl); simp only [go_sem]) | ((with_reducible refine an ?_ ?_); focus exact Au))
        repeat ((with_reducible refine an ?_ ?_); focus exact As)
        refine GCall.use (ab true) (fun _ => ⟨At, (hEq).val.use ⟨rfl, rfl⟩⟩) ?_; simp only [go_sem]
        repeat (first | ((with_reducible refine AWp.ofC ?_ ?_); (focus exact rfl); simp only [go_sem]) | ((with_reducible refine an ?_ ?_); focus exact Au))
        exact ⟨_, List.Sublist.refl _, rfl, by simp⟩
    · rintro vs L - ⟨rfl, rfl⟩
      rw [List.take_length, hM1]
      clear hM2 hM1 hcb hcb2
      simp only [go_sem]
      repeat (first | ((with_reducible refine AWp.ofC ?_ ?_); (focus exact rfl); simp only [go_sem]) | ((with_reducible refine an ?_ ?_); focus exact Au))
      repeat ((with_reducible refine an ?_ ?_); focus exact As)
      refine (hJ).val.use ?_; simp only [go_sem]
      have hcd : decide ((j.length : Int) = c.length) = true := decide_eq_true hci
      repeat (first | ((with_reducible refine AWp.ofC ?_ ?_); (focus exact rfl); simp only [go_sem, hcd]) | ((with_reducible refine an ?_ ?_); focus exact Au))
      intro b20
      repeat (first | ((with_reducible refine AWp.ofC ?_ ?_); (focus exact rfl); simp only [go_sem]) | ((with_reducible refine an ?_ ?_); focus exact Au))
      refine AWp.range' j.length [] [1, 3, 7, 18, 20, 150] (fun k vs L => L = [(b20, .row 3 1 ((fillZ z j.length k).map ai) j.length)]) (by omega) rfl rfl rfl (by rw [fillZ_zero, replicate_ai]) ?_ ?_
      · rintro k vs L' hk - rfl
        have hkc : k < c.length := by omega
        have hga := getD_map (f := ai) hk
        have hgb := getD_map (f := ai) hkc
        have hfl := fillZ_length (i := k) hsl (by omega)
        have hfs := fillZ_set hsl hk
        obtain ⟨hkz, hzk⟩ := List.getElem?_eq_some_iff.1 (hsg k hk)
        rw [hzk] at hfs
        obtain ⟨x1, x2, x3, x4⟩ := hj64 k hk
        have hkf : k < (fillZ z j.length k).length := by omega
        have hgf := getD_map (f := ai) hkf
        simp only [go_sem]
        repeat ((with_reducible refine an ?_ ?_); focus exact As)
        refine AWp.of ?_; simp only [go_sem]
        refine AWp.mix mixed [0, 1, 2, 3, 4, 5, 6, 7, 8, 9, 10] (.step 11 (.step 12 .done .done) .done) (by kernel_rfl) ?_; simp only [go_sem, hga, hgb]
        repeat ((with_reducible refine an ?_ ?_); focus exact As)
        refine ⟨_, List.Sublist.refl _, ?_⟩
        rw [← hfs, ← map_set_ai, hgf]
      · rintro vs L' - rfl
        rw [fillZ_full hsl]
        refine AWp.view [true] [(20, .sl 1 (z.map ai))] (LVw.refl _) (fun p hp => by simp only [List.mem_singleton] at hp; subst hp; exact Vw.ofLs (if_pos rfl) (by simp; omega)) ?_
        simp only [go_sem]
        repeat (first | ((with_reducible refine AWp.ofC ?_ ?_); (focus exact rfl); simp only [go_sem]) | ((with_reducible refine an ?_ ?_); focus exact Au))
        repeat ((with_reducible refine an ?_ ?_); focus exact As)
        refine (hD2).val.use ?_; simp only [go_sem]
        repeat (first | ((with_reducible refine AWp.ofC ?_ ?_); (focus exact rfl); simp only [go_sem]) | ((with_reducible refine an ?_ ?_); focus exact Au))
        intro b22
        repeat (first | ((with_reducible refine AWp.ofC ?_ ?_); (focus exact rfl); simp only [go_sem]) | ((with_reducible refine an ?_ ?_); focus exact Au))
        repeat ((with_reducible refine an ?_ ?_); focus exact As)
        refine (hD3).val.use ?_; simp only [go_sem]
        repeat (first | ((with_reducible refine AWp.ofC ?_ ?_); (focus exact rfl); simp only [go_sem]) | ((with_reducible refine an ?_ ?_); focus exact Au))
        intro b23
        repeat (first | ((with_reducible refine AWp.ofC ?_ ?_); (focus exact rfl); simp only [go_sem]) | ((with_reducible refine an ?_ ?_); focus exact Au))
        repeat ((with_reducible refine an ?_ ?_); focus exact As)
        refine GCall.use (ab true) (fun _ => ⟨At, (hS).val.use ⟨rfl, rfl⟩⟩) ?_; simp only [go_sem]
        repeat (first | ((with_reducible refine AWp.ofC ?_ ?_); (focus exact rfl); simp only [go_sem]) | ((with_reducible refine an ?_ ?_); focus exact Au))
        refine ret_eq ?_; simp only [go_sem]
  · rw [e1] at hL1
    repeat ((with_reducible refine an ?_ ?_); focus exact As)
    refine (hL1).val.use ?_; simp only [go_sem]
    repeat (first | ((with_reducible refine AWp.ofC ?_ ?_); (focus exact rfl); simp only [go_sem]) | ((with_reducible refine an ?_ ?_); focus exact Au))
    repeat ((with_reducible refine an ?_ ?_); focus exact As)
    refine (hL2).val.use ?_; simp only [go_sem]
    rcases hE2 with e2 | e2
    · rw [e2]
      repeat (first | ((with_reducible refine AWp.ofC ?_ ?_); (focus exact rfl); simp only [go_sem, Int.reduceEq]) | ((with_reducible refine an ?_ ?_); focus exact Au))
      refine ret_eq ?_; simp only [go_sem]
    · rw [e2]
      repeat (first | ((with_reducible refine AWp.ofC ?_ ?_); (focus exact rfl); simp only [go_sem, Int.reduceEq]) | ((with_reducible refine an ?_ ?_); focus exact Au))
      refine ret_eq ?_; simp only [go_sem]
end Go.AL
end
