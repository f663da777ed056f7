/- Texts of this claim's proof: WGr, WGs, WXf. No condition. -/
import Derived.Test.YtceeooppejjliaaGreatDoorM15
import Derived.Test.YtceeooppejjliaaGreatDoorM16
import Derived.Test.YtceeooppejjliaaGreatDoorM13
section
/- The greatest cut that satisfies locals. No condition. -/
namespace Go.AL
open Go Go.RowKit
set_option maxRecDepth 4000
structure IsGr (ps : List Pr) (E : Elim) (c : List Int) : Prop where
  sat : SatD ps E c
  up : ∀ d, SatD ps E d → ∀ p, p < ps.length → cAt d p ≤ cAt c p
open Classical in
noncomputable def greatO (ps : List Pr) (E : Elim) : Option (List Int) := if h : ∃ c, IsGr ps E c then some (Classical.choose h) else none
def UpB (ps : List Pr) (E : Elim) (d : List Int) : Prop := ∀ e, SatD ps E e → ∀ p, p < ps.length → cAt e p ≤ cAt d p
section
variable {ps : List Pr} {E : Elim}
theorem greatO_some {c : List Int} (h : IsGr ps E c) : greatO ps E = some c := by
  have hx : ∃ c, IsGr ps E c := ⟨c, h⟩
  unfold greatO
  rw [dif_pos hx]
  have h2 := Classical.choose_spec hx
  congr 1
  exact cut_ext (by rw [h2.sat.len, h.sat.len]) fun p hp => by
    rw [h2.sat.len] at hp
    have := h2.up c h.sat p hp
    have := h.up _ h2.sat p hp
    omega
theorem greatO_none (h : ¬ ∃ d, SatD ps E d) : greatO ps E = none := by
  unfold greatO
  rw [dif_neg fun ⟨c, hc⟩ => h ⟨c, hc.sat⟩]
theorem set_cAt {d : List Int} {p q : Nat} {z : Int} (hq : q < d.length) : cAt (d.set p z) q = if p = q then z else cAt d q := by
  rw [cAt_nat (by rw [List.length_set]; exact hq), List.getElem_set]
  split
  · rfl
  · rw [cAt_nat hq]
/-- Down by one where the local is false. -/
theorem up_down {d : List Int} (hl : d.length = ps.length) (h : UpB ps E d) {p : Nat} (hp : p < ps.length) (_h0 : 0 ≤ cAt d p) (hok : E.ok p (cAt d p).toNat = false) : UpB ps E (d.set p (cAt d p - 1)) := fun e he q hq => by
  rw [set_cAt (by rw [hl]; exact hq)]
  split
  · rename_i ee; subst ee
    have h1 := h e he p hp
    by_cases e2 : cAt e p = cAt d p
    · have := he.ok p hp
      rw [e2, hok] at this; cases this
    · omega
  · exact h e he q hq
theorem up_neg {d : List Int} (h : UpB ps E d) {p : Nat} (hp : p < ps.length) (hn : cAt d p < 0) : ¬ ∃ e, SatD ps E e := fun ⟨e, he⟩ => by
  have := h e he p hp
  have := ((inRange_iff he.len).1 he.rng p hp).1
  omega
theorem up_open (hv : validF ps = true) {d : List Int} (hl : d.length = ps.length) (hr : inRangeF ps d = true) (h : UpB ps E d) : UpB ps E (openF ps d) := fun e he p hp => openF_great hv he.len he.clo hl hr (h e he) p hp
theorem totC_lt {d e : List Int} (hl : e.length = d.length) (hle : ∀ q, q < d.length → 0 ≤ cAt e q ∧ cAt e q ≤ cAt d q) (hlt : ∃ q, q < d.length ∧ cAt e q < cAt d q) : totC e < totC d := by
  have key : ∀ (d e : List Int), e.length = d.length → (∀ q, q < d.length → 0 ≤ cAt e q ∧ cAt e q ≤ cAt d q) → totC e ≤ totC d ∧ ((∃ q, q < d.length ∧ cAt e q < cAt d q) → totC e < totC d) := by
    intro d
    induction d with
    | nil =>
      intro e hl _
      have : e = [] := List.length_eq_zero_iff.1 (by simpa using hl)
      subst this
      exact ⟨Nat.le_refl _, fun ⟨q, hq, _⟩ => by simp at hq⟩
    | cons a d ih =>
      intro e hl h
      cases e with
      | nil => simp at hl
      | cons b e =>
        have hc : ∀ (x : Int) (l : List Int) (q : Nat), cAt (x :: l) ((q + 1 : Nat) : Int) = cAt l (q : Int) := fun x l q => by
          unfold cAt
          rw [Int.toNat_natCast, Int.toNat_natCast]
          simp
        have h0 := h 0 (by simp)
        have e0 : ∀ (x : Int) (l : List Int), cAt (x :: l) ((0 : Nat) : Int) = x := fun x l => by unfold cAt; simp
        rw [e0, e0] at h0
        obtain ⟨i1, i2⟩ := ih e (by simpa using hl) fun q hq => by
          have := h (q + 1) (by simpa using hq)
          rw [hc, hc] at this
          exact this
        have ht : ∀ (x : Int) (l : List Int), totC (x :: l) = x.toNat + totC l := fun x l => by simp [totC]
        rw [ht, ht]
        refine ⟨by omega, ?_⟩
        rintro ⟨q, hq, hlt⟩
        cases q with
        | zero => rw [e0, e0] at hlt; omega
        | succ q =>
          rw [hc, hc] at hlt
          have := i2 ⟨q, by simpa using hq, hlt⟩
          omega
  exact (key d e hl hle).2 hlt
end
theorem set_self {d : List Int} {p : Nat} (hp : p < d.length) : d.set p (cAt d p) = d := by rw [cAt_nat hp, List.set_getElem_self]
theorem map_ge {d : List Int} {p : Nat} (hp : p < d.length) : (d.map ai).getD p .any = ai (cAt d p) := by rw [getD_map hp, cAt_nat hp]
noncomputable def aGreat (ps : List Pr) (ts : List Pd) : AV := if conF ps ts ≠ 0 then .tup [.sl 1 [], ai (conF ps ts)] else match greatO ps (elimOf ps ts) with | some c => .tup [aInts c, ai 0] | none => .tup [.sl 1 [], ai 7]
set_option maxHeartbeats 1000000 in
theorem conj_Greatest (ps : List Pr) (hs : Sm ps) (ts : List Pd) (hz : ∀ t ∈ ts, szF t ≤ 1000000) (htl : ts.length ≤ 1000000) : PC Go.Proofs.Tryz.prog 33 [aTr ps, .sl 6 (ts.map aPd)] (aGreat ps ts) := by
  have h1 := conj_start ps hs ts hz htl
  unfold startK at h1
  unfold aGreat
  by_cases hf : conF ps ts = 0
  · rw [if_neg (by simpa using hf)]
    obtain ⟨hv, htn, _⟩ := conF_inv hf
    have hl := hs.procs
    have hl1 := (valid_len hv).1
    have hN := elim_need ps ts
    have hEn : (elimOf ps ts).n = ps.length := rfl
    have hB : ∀ f bb bn, boardL (elimOf ps ts) f bb bn = [(bb, .row 116 3 [.agg [.sl 1 (needT (elimOf ps ts)), .sl 1 (okM (elimOf ps ts)), .ls bn 1 0 (elimOf ps ts).n (elimOf ps ts).n]] 1), (bn, .row 3 1 (dnA (elimOf ps ts).n f) (elimOf ps ts).n)] := fun f bb bn => rfl
    have hvl : (ts.length : Int) = ps.length := by omega
    rw [hf] at h1
    generalize elimOf ps ts = E at *
    have hol := okM_len E
    rw [hEn] at hol
    have hog : ∀ p, p < ps.length → (okM E).getD p .any = .sl 1 (okL E p) := fun p hp => okM_get (by omega)
    have hkl := fun p => okL_len E p
    have hkg : ∀ p k, k ≤ E.top p → (okL E p).getD k .any = ab (E.ok p k) := fun p k hk => okL_get hk
    have htp : ∀ p, p < ps.length → E.top p ≤ 1000000 := fun p hp => by rw [hN.top p hp]; exact hs.evs _ (List.getElem_mem hp)
    refine PC.enter 95 [.tmp 4, .tmp 5] [2] Go.Proofs.Tryz.func33 rfl rfl rfl rfl rfl (by simp) (AWp.of ?_); simp only [go_sem]
    repeat (first | ((with_reducible refine AWp.ofC ?_ ?_); (focus exact rfl); simp only [go_sem]) | ((with_reducible refine an ?_ ?_); focus exact Au))
    refine h1.val.mono ?_
    rintro r L1 (⟨-, bb, bn, hb, rfl, rfl⟩ | ⟨hC, _, _⟩)
    rotate_left
    · exact absurd rfl hC
    simp only [go_sem]
    have hbv := board_view (E := E) (now := fun _ => 0) (bb := bb) (bn := bn) hb
    unfold aBoard at hbv
    rw [hB] at hbv
    rw [hB]
    generalize needT E = NT at *
    generalize dnA E.n (fun _ => 0) = DN at *
    refine AWp.view [true, true] [(6, .rp 3 [.agg [.sl 1 NT, .sl 1 (okM E), .sl 1 DN]] 0 0)] (LVw.refl _) ?_ ?_
    · intro q hq
      simp only [List.mem_singleton] at hq
      subst hq
      simp only [go_sem, pickT]
      exact hbv
    simp only [go_sem, pickF]
    repeat (first | ((with_reducible refine AWp.ofC ?_ ?_); (focus exact rfl); simp only [go_sem, hvl]) | ((with_reducible refine an ?_ ?_); focus exact Au))
    intro b8
    repeat (first | ((with_reducible refine AWp.ofC ?_ ?_); (focus exact rfl); simp only [go_sem, hol]) | ((with_reducible refine an ?_ ?_); focus exact Au))
    rw [fillA_zero ps.length (fun q => (E.top q : Int))]
    refine AWp.range' ps.length [] [2, 6, 8, 28, 29] (fun p vs L => L = [(b8, .row 3 1 (fillA ps.length (fun q => (E.top q : Int)) p) ps.length)]) (by omega) rfl rfl rfl rfl ?_ ?_
    · rintro p vs L hp - rfl
      have g0 := hog p hp
      have g1 := hkl p
      have g2 : ((E.top p + 1 : Nat) : Int) - 1 = E.top p := by omega
      have g3 := fillA_len ps.length (fun q => (E.top q : Int)) p
      have g4 := fillA_set (n := ps.length) (f := fun q => (E.top q : Int)) (p := p)
      have g5 := fillA_get (n := ps.length) (f := fun q => (E.top q : Int)) (p := p) hp
      have g6 := htp p hp
      rw [← g4]
      simp only [go_sem]
      repeat (first | ((with_reducible refine AWp.ofC ?_ ?_); (focus exact rfl); simp only [go_sem, g0, g1, g2, g3, g5]) | ((with_reducible refine an ?_ ?_); focus exact Au))
      repeat ((with_reducible refine an ?_ ?_); focus exact As)
      exact ⟨_, List.Sublist.refl _, rfl⟩
    · rintro vs L - rfl
      have hd0 : fillA ps.length (fun q => (E.top q : Int)) ps.length = (cutL ps.length E.top).map ai := by
        unfold fillA cutL
        rw [List.map_map]
        refine List.map_congr_left fun q hq => ?_
        rw [if_pos (List.mem_range.1 hq)]; rfl
      have hc0 : ∀ q, q < ps.length → cAt (cutL ps.length E.top) q = E.top q := fun q hq => by rw [cAt_nat (by rw [cutL_len]; exact hq)]; simp [cutL]
      have hr0 : inRangeF ps (cutL ps.length E.top) = true := (inRange_iff (cutL_len _ _)).2 fun q hq => by rw [hc0 q hq, hN.top q hq]; omega
      have hu0 : UpB ps E (cutL ps.length E.top) := fun e he q hq => by
        rw [hc0 q hq, hN.top q hq]
        exact ((inRange_iff he.len).1 he.rng q hq).2
      rw [hd0]
      simp only [go_sem]
      refine AWp.block (AWp.loopN [8] [2, 6] (fun m vs L => ∃ b cap d, vs = [.ls b 1 0 ps.length cap] ∧ L = [(b, .row 3 1 (d.map ai) cap)] ∧ d.length = ps.length ∧ inRangeF ps d = true ∧ UpB ps E d ∧ m = totC d) (totC (cutL ps.length E.top)) ?_ ?_)
      · exact ⟨b8, ps.length, _, rfl, rfl, cutL_len _ _, hr0, hu0, rfl⟩
      rintro m vs L - ⟨b, cap, d, rfl, rfl, hdl, hdr, hdu, rfl⟩
      have hdr' := (inRange_iff hdl).1 hdr
      simp only [go_sem]
      repeat (first | ((with_reducible refine AWp.ofC ?_ ?_); (focus exact rfl); simp only [go_sem]) | ((with_reducible refine an ?_ ?_); focus exact Au))
      refine (MCalls.viewed (Vws.cons (Vw.ofLs (t := 3) (xs := d.map ai) (cap := cap) (by simp only [lk, if_true]) (by rw [List.length_map, hdl])) .nil) (ints_cloneO d (by omega)) fun r L1 hA => hA.own (own_ints d)).val.mono ?_
      rintro r L ⟨L1, rfl, hA⟩
      rcases hA.inv with ⟨e1, rfl, rfl⟩ | ⟨bo, capo, rfl, rfl⟩
      · have : d.length = 0 := by simpa using congrArg List.length e1
        omega
      simp only [go_sem, List.cons_append, List.nil_append]
      refine AWp.view [true, false] [(11, aInts d)] (LVw.refl _) ?_ ?_
      · intro q hq
        simp only [List.mem_singleton] at hq
        subst hq
        simp only [go_sem, pickT]
        exact Vw.ofLs (t := 3) (cap := capo) (by simp only [lk, if_true]) (by rw [List.length_map])
      simp only [go_sem, pickF]
      repeat (first | ((with_reducible refine AWp.ofC ?_ ?_); (focus exact rfl); simp only [go_sem]) | ((with_reducible refine an ?_ ?_); focus exact Au))
      refine AWp.range' ps.length [] [2, 6, 8, 11, 45] (fun p vs L => ∃ e : List Int, L = [(b, .row 3 1 (e.map ai) cap)] ∧ e.length = ps.length ∧ (∀ q, q < ps.length → 0 ≤ cAt e q ∧ cAt e q ≤ cAt d q) ∧ UpB ps E e ∧ ∀ q, q < p → q < ps.length → E.ok q (cAt e q).toNat = true) (by omega) rfl rfl rfl ⟨d, rfl, hdl, fun q hq => ⟨(hdr' q hq).1, Int.le_refl _⟩, hdu, fun q hq => by omega⟩ ?_ ?_
      · rintro p vs L hp - ⟨e, rfl, hel, her, heu, hek⟩
        have hpe : p < e.length := by omega
        obtain ⟨he0, he1⟩ := her p hp
        have hde := (hdr' p hp).2
        have htop := hN.top p hp
        have htpp := htp p hp
        simp only [go_sem]
        repeat (first | ((with_reducible refine AWp.ofC ?_ ?_); (focus exact rfl); simp only [go_sem]) | ((with_reducible refine an ?_ ?_); focus exact Au))
        refine AWp.seq (AWp.block (AWp.loopN [] [2, 6, 8, 11, 12, 45, 46] (fun m vs L => ∃ z : Int, L = [(b, .row 3 1 ((e.set p z).map ai) cap)] ∧ -1 ≤ z ∧ z ≤ cAt e p ∧ UpB ps E (e.set p z) ∧ m = (z + 1).toNat) ((cAt e p + 1).toNat) ?_ ?_))
        · exact ⟨cAt e p, by rw [set_self hpe], by omega, Int.le_refl _, by rw [set_self hpe]; exact heu, rfl⟩
        rintro m vs L - ⟨z, rfl, hz0, hz1, hzu, rfl⟩
        have hsl : (e.set p z).length = e.length := List.length_set
        have hcz : cAt (e.set p z) p = z := by rw [set_cAt hpe, if_pos rfl]
        have gz : ((e.set p z).map ai).getD p .any = ai z := by rw [map_ge (by rw [hsl]; exact hpe), hcz]
        have g0 := hog p hp
        have g1 := hkl p
        have g2 := hkg p z.toNat (by omega)
        have hss : ∀ x, ((e.set p z).set p x) = e.set p x := fun x => List.set_set ..
        have hdn := fun h0 hok => up_down (d := e.set p z) (by rw [hsl]; exact hel) hzu hp (by rw [hcz]; exact h0) (by rw [hcz]; exact hok)
        rw [hcz, hss] at hdn
        have hng := fun hn => up_neg hzu hp (by rw [hcz]; exact hn)
        have hms : ((e.set p z).map ai).set p (ai (z - 1)) = (e.set p (z - 1)).map ai := by rw [← List.map_set, hss]
        have hnext : 0 ≤ z → E.ok p z.toNat = true → (∀ q, q < ps.length → 0 ≤ cAt (e.set p z) q ∧ cAt (e.set p z) q ≤ cAt d q) ∧ ∀ q, q < p + 1 → q < ps.length → E.ok q (cAt (e.set p z) q).toNat = true := fun h0 hok => by
          refine ⟨fun q hq => ?_, fun q hq1 hq => ?_⟩
          · rw [set_cAt (by omega)]
            split
            · rename_i e; subst e; omega
            · exact her q hq
          · rw [set_cAt (by omega)]
            split
            · rename_i e; subst e; exact hok
            · exact hek q (by omega) hq
        have hlz : ((e.set p z).map ai).length = ps.length := by rw [List.length_map, hsl, hel]
        have hm' : (z - 1 + 1).toNat < (z + 1).toNat ∨ z < 0 := by omega
        generalize hEz : (e.set p z).map ai = EZ at *
        generalize E.ok p z.toNat = okz at *
        simp only [go_sem]
        refine AWp.seq (AWp.seq ?_)
        refine AWp.read mixed [0, 1, 2, 3, 4, 5, 6, 7, 8, 9, 10, 11, 12, 13, 14, 15, 16, 17, 18, 19, 20] (by kernel_rfl) ?_; simp only [go_sem, gz, g0, g1, g2]
        repeat ((with_reducible refine an ?_ ?_); focus exact As)
        repeat (first | ((with_reducible refine AWp.ofC ?_ ?_); (focus exact rfl); simp only [go_sem]) | ((with_reducible refine an ?_ ?_); focus exact Au))
        refine ⟨fun h5 h6 => ?_, fun h5 => ?_⟩
        · repeat (first | ((with_reducible refine AWp.ofC ?_ ?_); (focus exact rfl); simp only [go_sem, gz, hlz]) | ((with_reducible refine an ?_ ?_); focus exact Au))
          repeat ((with_reducible refine an ?_ ?_); focus exact As)
          refine ⟨_, List.Sublist.refl _, (z - 1 + 1).toNat, by omega, z - 1, by rw [hms], by omega, by omega, hdn h5 h6, rfl⟩
        · repeat (first | ((with_reducible refine AWp.ofC ?_ ?_); (focus exact rfl); simp only [go_sem, gz, hlz]) | ((with_reducible refine an ?_ ?_); focus exact Au))
          refine ⟨fun h7 => ?_, fun h7 => ?_⟩
          · repeat (first | ((with_reducible refine AWp.ofC ?_ ?_); (focus exact rfl); simp only [go_sem]) | ((with_reducible refine an ?_ ?_); focus exact Au))
            rw [greatO_none (hng h7)]
            refine ret_view [] ?_; simp only [go_sem]
            exact .mkTup (Vws.cons (.nil 1) (Vws.refl _))
          · obtain ⟨k1, k2⟩ := hnext (by omega) (by simpa using h5 (by omega))
            repeat (first | ((with_reducible refine AWp.ofC ?_ ?_); (focus exact rfl); simp only [go_sem]) | ((with_reducible refine an ?_ ?_); focus exact Au))
            exact ⟨_, List.Sublist.refl _, e.set p z, by rw [hEz], by rw [hsl, hel], k1, hzu, k2⟩
      · rintro vs L - ⟨e, rfl, hel, her, heu, hek⟩
        have herr : inRangeF ps e = true := (inRange_iff hel).2 fun q hq => by
          have := her q hq; have := hdr' q hq; omega
        have hO := cut_Open ps hs hv e hel herr
        obtain ⟨o1, o2, o3⟩ := openF_ok hv hel herr
        have ole := openF_le hv hel herr
        have oup := up_open hv hel herr heu
        have hocl := openF_closed hv hel herr
        have heq := ints_equal (openF ps e) d (by omega)
        have hgr : openF ps e = d → greatO ps E = some d := fun h => greatO_some ⟨⟨hdl, hdr, by rw [← h]; exact hocl, fun q hq => by
          have h1 := ole q hq
          rw [h] at h1
          have h2 := (her q hq).2
          have h3 : cAt d q = cAt e q := by omega
          rw [h3]; exact hek q hq hq⟩, hdu⟩
        have hlt : ¬ openF ps e = d → totC (openF ps e) < totC d := fun h => by
          have or := (inRange_iff o1).1 o2
          refine totC_lt (by omega) (fun q hq => ⟨(or q (by omega)).1, Int.le_trans (ole q (by omega)) (her q (by omega)).2⟩) ?_
          by_cases hx : ∃ q, q < d.length ∧ cAt (openF ps e) q < cAt d q
          · exact hx
          · refine absurd (cut_ext (by omega) fun q hq => ?_) h
            have h1 : ¬ cAt (openF ps e) q < cAt d q := fun h => hx ⟨q, by omega, h⟩
            have h2 := ole q (by omega)
            have h3 := (her q (by omega)).2
            omega
        unfold openK at hO
        generalize openF ps e = o at *
        simp only [go_sem]
        repeat (first | ((with_reducible refine AWp.ofC ?_ ?_); (focus exact rfl); simp only [go_sem]) | ((with_reducible refine an ?_ ?_); focus exact Au))
        refine MVal.pass (Lf := [(b, .row 3 1 (e.map ai) cap)]) (Li := []) (Lr := []) (.refl _) (Vws.cons (.refl _) (Vws.cons (Vw.ofLs (t := 3) (xs := e.map ai) (cap := cap) (by simp only [lk, if_true]) (by rw [List.length_map, hel])) .nil)) hO.val ?_
        rintro r L1 ⟨b2, cap2, rfl, rfl⟩
        refine ⟨_, .refl _, ?_⟩
        simp only [go_sem, List.append_nil]
        repeat (first | ((with_reducible refine AWp.ofC ?_ ?_); (focus exact rfl); simp only [go_sem]) | ((with_reducible refine an ?_ ?_); focus exact Au))
        refine (PC.view (Vws.cons (Vw.ofLs (t := 3) (xs := o.map ai) (cap := cap2) (by simp only [lk, if_true]) (by rw [List.length_map, o1])) (Vws.cons (.refl _) .nil)) heq (Own.v _) ?_).val
        simp only [go_sem]
        repeat (first | ((with_reducible refine AWp.ofC ?_ ?_); (focus exact rfl); simp only [go_sem]) | ((with_reducible refine an ?_ ?_); focus exact Au))
        refine ⟨fun h7 => ?_, fun h7 => ?_⟩
        · subst h7
          rw [hgr rfl]
          repeat (first | ((with_reducible refine AWp.ofC ?_ ?_); (focus exact rfl); simp only [go_sem]) | ((with_reducible refine an ?_ ?_); focus exact Au))
          refine ret_view [true] ?_; simp only [go_sem]
          exact .mkTup (Vws.cons (Vw.ofLs (t := 3) (cap := cap2) (by simp only [lk, if_true]) (by rw [List.length_map, o1])) (Vws.refl _))
        · repeat (first | ((with_reducible refine AWp.ofC ?_ ?_); (focus exact rfl); simp only [go_sem]) | ((with_reducible refine an ?_ ?_); focus exact Au))
          exact ⟨_, List.Sublist.refl _, _, hlt h7, b2, cap2, o, rfl, rfl, o1, o2, oup, rfl⟩
  · rw [if_pos hf]
    generalize conF ps ts = C at *
    refine PC.enter 95 [.tmp 4, .tmp 5] [2] Go.Proofs.Tryz.func33 rfl rfl rfl rfl rfl (by simp) (AWp.of ?_); simp only [go_sem]
    repeat (first | ((with_reducible refine AWp.ofC ?_ ?_); (focus exact rfl); simp only [go_sem]) | ((with_reducible refine an ?_ ?_); focus exact Au))
    refine h1.val.mono ?_
    rintro r L1 (⟨h0, _⟩ | ⟨hC, rfl, rfl⟩)
    · exact absurd h0 hf
    simp only [go_sem]
    repeat (first | ((with_reducible refine AWp.ofC ?_ ?_); (focus exact rfl); simp only [go_sem, hf]) | ((with_reducible refine an ?_ ?_); focus exact Au))
    refine ret_view [] ?_; simp only [go_sem]
    exact .mkTup (Vws.cons (.nil 1) (Vws.refl _))
end Go.AL
end
section
/- The greatest cut that satisfies locals: the reference of layer 37. No condition. -/
namespace Go.AL
open Go Go.RowKit
set_option maxRecDepth 4000
set_option maxHeartbeats 1000000 in
theorem ref37_Greatest (ps : List Pr) (hs : Sm ps) (ts : List Pd) (hz : ∀ t ∈ ts, szF t ≤ 1000000) (htl : ts.length ≤ 1000000) (hf : conF ps ts = 0) :
    PC Go.Proofs.Tryz.prog 38 [aTr ps, .sl 6 (ts.map aPd)] (match greatO ps (elimOf ps ts) with | some c => .tup [aInts c, ab true] | none => .tup [.sl 1 [], ab false]) := by
  obtain ⟨hv, htn, hlc⟩ := conF_inv hf
  have hl := hs.procs
  have hl1 := (valid_len hv).1
  have hN := elim_need ps ts
  have hloc : ∀ p (hp : p < ps.length) (hpt : p < ts.length) k, k ≤ ps[p].evs.length → PC Go.Proofs.Tryz.prog 77 [aTr ps, ai p, ai (k : Nat), aPd ts[p]] (ab ((elimOf ps ts).ok p k)) := fun p hp hpt k hk => by
    obtain ⟨c1, _, _, _, c5, c6⟩ := lcl_ok (hlc p hpt)
    have h := ref29_Local ps hs p k hp hk ts[p] (hz _ (List.getElem_mem hpt)) c1 c5 c6
    have hok : (elimOf ps ts).ok p k = lclT ps p ts[p] k := by show (match ts[p]? with | some t => lclT ps p t k | none => true) = _; rw [List.getElem?_eq_getElem hpt]
    rw [hok]; exact h
  generalize elimOf ps ts = E at *
  have hd0l : (ps.map fun x => (x.evs.length : Int)).length = ps.length := List.length_map _
  have hc0 : ∀ q (hq : q < ps.length), cAt (ps.map fun x => (x.evs.length : Int)) q = ps[q].evs.length := fun q hq => by rw [cAt_nat (by rw [hd0l]; exact hq), List.getElem_map]
  have hr0 : inRangeF ps (ps.map fun x => (x.evs.length : Int)) = true := (inRange_iff hd0l).2 fun q hq => by rw [hc0 q hq]; omega
  have hu0 : UpB ps E (ps.map fun x => (x.evs.length : Int)) := fun e he q hq => by
    rw [hc0 q hq]
    exact ((inRange_iff he.len).1 he.rng q hq).2
  have hLen := ref22_Lengths ps hs
  generalize (ps.map fun x => (x.evs.length : Int)) = d0 at *
  refine PC.enter 69 [.tmp 4, .tmp 5] [2] Go.Proofs.Tryz.func38 rfl rfl rfl rfl rfl (by simp) (AWp.of ?_); simp only [go_sem]
  repeat (first | ((with_reducible refine AWp.ofC ?_ ?_); (focus exact rfl); simp only [go_sem]) | ((with_reducible refine an ?_ ?_); focus exact Au))
  refine hLen.val.mono ?_
  rintro r L hA
  rcases hA.inv with ⟨e1, rfl, rfl⟩ | ⟨b, cap, rfl, rfl⟩
  · have : d0.length = 0 := by simpa using congrArg List.length e1
    omega
  have hml : (d0.map ai).length = ps.length := by rw [List.length_map, hd0l]
  rw [hml]
  simp only [go_sem]
  refine AWp.block (AWp.loopN [6] [1, 2] (fun m vs L => ∃ b cap d, vs = [.ls b 1 0 ps.length cap] ∧ L = [(b, .row 3 1 (d.map ai) cap)] ∧ d.length = ps.length ∧ inRangeF ps d = true ∧ UpB ps E d ∧ m = totC d) (totC d0) ?_ ?_)
  · exact ⟨b, cap, d0, rfl, rfl, hd0l, hr0, hu0, rfl⟩
  clear hLen hA
  rintro m vs L - ⟨b, cap, d, rfl, rfl, hdl, hdr, hdu, rfl⟩
  have hdr' := (inRange_iff hdl).1 hdr
  have hO := ref22_Open ps hs hv d hdl hdr
  obtain ⟨o1, o2, o3⟩ := openF_ok hv hdl hdr
  have ole := openF_le hv hdl hdr
  have oup := up_open hv hdl hdr hdu
  have hocl := openF_closed hv hdl hdr
  have or := (inRange_iff o1).1 o2
  unfold ropenK at hO
  generalize openF ps d = o at *
  simp only [go_sem]
  repeat ((with_reducible refine an ?_ ?_); focus exact As)
  refine AWp.of ?_; simp only [go_sem]
  refine AWp.view [true] [(7, aInts d), (6, aInts d)] (LVw.refl _) ?_ ?_
  · intro q hq
    simp only [List.mem_cons, List.not_mem_nil, or_false] at hq
    rcases hq with rfl | rfl <;> simp only [go_sem, pickT] <;> exact Vw.ofLs (t := 3) (cap := cap) (by simp only [lk, if_true]) (by rw [List.length_map, hdl])
  simp only [go_sem, pickF]
  repeat (first | ((with_reducible refine AWp.ofC ?_ ?_); (focus exact rfl); simp only [go_sem]) | ((with_reducible refine an ?_ ?_); focus exact Au))
  refine hO.val.mono ?_
  rintro r L ⟨b2, cap2, rfl, rfl⟩
  simp only [go_sem]
  repeat (first | ((with_reducible refine AWp.ofC ?_ ?_); (focus exact rfl); simp only [go_sem]) | ((with_reducible refine an ?_ ?_); focus exact Au))
  refine AWp.block (AWp.count 9 ps.length [8] [1, 2, 6, 7] (fun p vs L => ∃ (e : List Int) (mv : Bool), vs = [ab mv] ∧ L = [(b2, .row 3 1 (e.map ai) cap2)] ∧ e.length = ps.length ∧ (∀ q, q < ps.length → 0 ≤ cAt e q ∧ cAt e q ≤ cAt d q) ∧ UpB ps E e ∧ (mv = false → e = o ∧ ∀ q, q < p → q < ps.length → E.ok q (cAt e q).toNat = true ∧ cAt e q = cAt d q) ∧ (mv = true → ∃ q, q < ps.length ∧ cAt e q < cAt d q)) rfl rfl ⟨o, false, rfl, rfl, o1, fun q hq => ⟨(or q hq).1, ole q hq⟩, oup, fun _ => ⟨rfl, fun q hq => by omega⟩, (fun h => by cases h)⟩ ?_)
  rintro p vs L hp - ⟨e, mv, rfl, rfl, hel, her, heu, hm0, hm1⟩
  simp only [go_sem]
  repeat (first | ((with_reducible refine AWp.ofC ?_ ?_); (focus exact rfl); simp only [go_sem]) | ((with_reducible refine an ?_ ?_); focus exact Au))
  refine ⟨fun h1 => ?_, fun h1 => ?_⟩
  · have hpp : p < ps.length := by omega
    have hpt : p < ts.length := by omega
    have hpe : p < e.length := by omega
    have hgt := getD_map (f := aPd) hpt
    obtain ⟨he0, he1⟩ := her p hpp
    have hde := (hdr' p hpp).2
    have hloc := hloc p hpp hpt
    have gd := map_ge (d := d) (p := p) (by omega)
    have hel2 := hs.evs _ (List.getElem_mem hpp)
    generalize ts[p] = t at *
    obtain ⟨k0, n0, p0, q0, s0, l0⟩ := t
    simp only [aPd_mk] at *
    repeat (first | ((with_reducible refine AWp.ofC ?_ ?_); (focus exact rfl); simp only [go_sem]) | ((with_reducible refine an ?_ ?_); focus exact Au))
    refine AWp.seq (AWp.block (AWp.seq (AWp.block (AWp.loopN [8] [1, 2, 6, 7, 9] (fun m vs L => ∃ (z : Int) (mv' : Bool), vs = [ab mv'] ∧ L = [(b2, .row 3 1 ((e.set p z).map ai) cap2)] ∧ -1 ≤ z ∧ z ≤ cAt e p ∧ UpB ps E (e.set p z) ∧ (mv' = false → mv = false ∧ z = cAt e p) ∧ (mv' = true → mv = true ∨ z < cAt e p) ∧ m = (z + 1).toNat) ((cAt e p + 1).toNat) ?_ ?_))))
    · exact ⟨cAt e p, mv, rfl, by rw [set_self hpe], by omega, Int.le_refl _, by rw [set_self hpe]; exact heu, fun h => ⟨h, rfl⟩, fun h => .inl h, rfl⟩
    rintro m vs L - ⟨z, mv', rfl, rfl, hz0, hz1, hzu, hv0, hv1, rfl⟩
    have hsl : (e.set p z).length = e.length := List.length_set
    have hcz : cAt (e.set p z) p = z := by rw [set_cAt hpe, if_pos rfl]
    have gz : ((e.set p z).map ai).getD p .any = ai z := by rw [map_ge (by rw [hsl]; exact hpe), hcz]
    have hss : ∀ x, ((e.set p z).set p x) = e.set p x := fun x => List.set_set ..
    have hdn := fun h0 hok => up_down (d := e.set p z) (by rw [hsl]; exact hel) hzu hpp (by rw [hcz]; exact h0) (by rw [hcz]; exact hok)
    rw [hcz, hss] at hdn
    have hng := fun hn => up_neg hzu hpp (by rw [hcz]; exact hn)
    have hms : ((e.set p z).map ai).set p (ai (z - 1)) = (e.set p (z - 1)).map ai := by rw [← List.map_set, hss]
    have hlz : ((e.set p z).map ai).length = ps.length := by rw [List.length_map, hsl, hel]
    generalize hEz : (e.set p z).map ai = EZ at *
    simp only [go_sem]
    refine AWp.seq (AWp.seq ?_)
    refine AWp.read mixed [0, 1, 2, 3, 4, 5, 6, 7, 8, 9, 10, 11, 12, 13, 14, 15, 16, 17, 18] (by kernel_rfl) ?_; simp only [go_sem, gz, hgt, hlz]
    repeat ((with_reducible refine an ?_ ?_); focus exact As)
    refine GCall.use (ab (E.ok p z.toNat)) ?_ ?_
    · intro g
      have ez : z = ((z.toNat : Nat) : Int) := by have := g; omega
      have h := hloc z.toNat (by omega)
      rw [← ez] at h
      exact ⟨At, (PC.view (Vws.refl _) h (Own.v _) ⟨rfl, rfl⟩).val⟩
    simp only [go_sem]
    repeat ((with_reducible refine an ?_ ?_); focus exact As)
    repeat (first | ((with_reducible refine AWp.ofC ?_ ?_); (focus exact rfl); simp only [go_sem]) | ((with_reducible refine an ?_ ?_); focus exact Au))
    refine ⟨fun h5 h6 => ?_, fun h5 => ?_⟩
    · repeat (first | ((with_reducible refine AWp.ofC ?_ ?_); (focus exact rfl); simp only [go_sem, gz, hlz]) | ((with_reducible refine an ?_ ?_); focus exact Au))
      refine ⟨_, List.Sublist.refl _, (z - 1 + 1).toNat, by omega, z - 1, true, rfl, by rw [hms], by omega, by omega, hdn h5 h6, (fun h => by cases h), fun _ => .inr (by omega), rfl⟩
    · repeat (first | ((with_reducible refine AWp.ofC ?_ ?_); (focus exact rfl); simp only [go_sem, gz, hlz]) | ((with_reducible refine an ?_ ?_); focus exact Au))
      refine ⟨fun h7 => ?_, fun h7 => ?_⟩
      · repeat (first | ((with_reducible refine AWp.ofC ?_ ?_); (focus exact rfl); simp only [go_sem]) | ((with_reducible refine an ?_ ?_); focus exact Au))
        rw [greatO_none (hng h7)]
        refine ret_view [] ?_; simp only [go_sem]
        exact .mkTup (Vws.cons (.nil 1) (Vws.refl _))
      · have hok : E.ok p z.toNat = true := by simpa using h5 (by omega)
        have her2 : ∀ q, q < ps.length → 0 ≤ cAt (e.set p z) q ∧ cAt (e.set p z) q ≤ cAt d q := fun q hq => by
          rw [set_cAt (by omega)]
          split
          · rename_i e; subst e; omega
          · exact her q hq
        cases mv' with
        | true =>
          refine AWp.mix mixed [0, 1, 2, 3, 4, 6, 7, 8, 9] (.step 5 (.step 10 (.step 11 (.step 12 .done .done) .done) .done) .done) (by kernel_rfl) ?_; simp only [go_sem, gz, gd, hlz]
          repeat ((with_reducible refine an ?_ ?_); focus exact As)
          repeat (first | ((with_reducible refine AWp.ofC ?_ ?_); (focus exact rfl); simp only [go_sem]) | ((with_reducible refine an ?_ ?_); focus exact Au))
          refine ⟨_, List.Sublist.refl _, e.set p z, true, rfl, by rw [hEz], by rw [hsl, hel], her2, hzu, (fun h => by cases h), fun _ => ?_⟩
          rcases hv1 rfl with h | h
          · obtain ⟨q, hq, hlt⟩ := hm1 h
            refine ⟨q, hq, ?_⟩
            rw [set_cAt (by omega)]
            split
            · rename_i e; subst e; omega
            · exact hlt
          · exact ⟨p, hpp, by rw [hcz]; omega⟩
        | false =>
          obtain ⟨rfl, rfl⟩ := hv0 rfl
          obtain ⟨rfl, hm2⟩ := hm0 rfl
          rw [set_self hpe] at *
          by_cases hzd : cAt e p = cAt d p
          · refine AWp.mix mixed [0, 1, 2, 3, 4, 6, 7, 8, 9] (.step 5 (.step 10 (.step 11 (.step 12 .done .done) .done) .done) .done) (by kernel_rfl) ?_; simp only [go_sem, gz, gd, hlz, hzd]
            repeat ((with_reducible refine an ?_ ?_); focus exact As)
            repeat (first | ((with_reducible refine AWp.ofC ?_ ?_); (focus exact rfl); simp only [go_sem]) | ((with_reducible refine an ?_ ?_); focus exact Au))
            refine ⟨_, List.Sublist.refl _, e, false, rfl, by rw [hEz], hel, her, heu, fun _ => ⟨rfl, fun q hq1 hq => ?_⟩, (fun h => by cases h)⟩
            by_cases eq : q = p
            · subst eq; exact ⟨hok, hzd⟩
            · exact hm2 q (by omega) hq
          · refine AWp.mix mixed [0, 1, 2, 3, 4, 6, 7, 8, 9] (.step 5 (.step 10 (.step 11 (.step 12 .done .done) .done) .done) .done) (by kernel_rfl) ?_; simp only [go_sem, gz, gd, hlz, hzd]
            repeat ((with_reducible refine an ?_ ?_); focus exact As)
            repeat (first | ((with_reducible refine AWp.ofC ?_ ?_); (focus exact rfl); simp only [go_sem]) | ((with_reducible refine an ?_ ?_); focus exact Au))
            exact ⟨_, List.Sublist.refl _, e, true, rfl, by rw [hEz], hel, her, heu, (fun h => by cases h), fun _ => ⟨p, hpp, by omega⟩⟩
  · cases mv with
    | true =>
      have hlt := totC_lt (d := d) (e := e) (by omega) (fun q hq => her q (by omega)) (by obtain ⟨q, hq, h⟩ := hm1 rfl; exact ⟨q, by omega, h⟩)
      repeat (first | ((with_reducible refine AWp.ofC ?_ ?_); (focus exact rfl); simp only [go_sem]) | ((with_reducible refine an ?_ ?_); focus exact Au))
      refine ⟨_, List.Sublist.refl _, _, hlt, b2, cap2, e, rfl, rfl, hel, (inRange_iff hel).2 fun q hq => ?_, heu, rfl⟩
      have := her q hq; have := hdr' q hq; omega
    | false =>
      obtain ⟨rfl, hm2⟩ := hm0 rfl
      have hed : e = d := cut_ext (by omega) fun q hq => (hm2 q (by omega) (by omega)).2
      subst hed
      rw [greatO_some ⟨⟨hdl, hdr, hocl, fun q hq => (hm2 q (by omega) hq).1⟩, hdu⟩]
      repeat (first | ((with_reducible refine AWp.ofC ?_ ?_); (focus exact rfl); simp only [go_sem]) | ((with_reducible refine an ?_ ?_); focus exact Au))
      refine ret_view [true] ?_; simp only [go_sem]
      exact .mkTup (Vws.cons (Vw.ofLs (t := 3) (cap := cap2) (by simp only [lk, if_true]) (by rw [List.length_map, hdl])) (Vws.refl _))
end Go.AL
end
section
/- The law ConjunctiveFinds: the walk. No condition. -/
namespace Go.AL
open Go Go.RowKit
set_option maxRecDepth 4000
def aNone0 : AV := .agg [ai 0, ab false, ai 0, anil, anil, anil, anil, ai 0]
theorem greatO_len {ps : List Pr} {E : Elim} {c : List Int} (h : greatO ps E = some c) : c.length = ps.length := by
  unfold greatO at h
  split at h
  · rename_i hx
    cases h
    exact (Classical.choose_spec hx).sat.len
  · cases h
theorem ref15_SameList0 : PC Go.Proofs.Tryz.prog 136 [.sl 1 [], anil] (ab true) := by
  refine PC.enter 26 [.tmp 4] [] Go.Proofs.Tryz.func136 rfl rfl rfl rfl rfl (by simp) (AWp.of ?_); simp only [go_sem]
  repeat (first | ((with_reducible refine AWp.ofC ?_ ?_); (focus exact rfl); simp only [go_sem]) | ((with_reducible refine an ?_ ?_); focus exact Au))
  refine AWp.block (AWp.count 5 0 [] [0, 1] (fun i vs L => L = []) rfl rfl rfl ?_)
  rintro i vs L hi - rfl
  have : i = 0 := by omega
  subst this
  simp only [go_sem]
  have hh : ¬ ((0 : Nat) : Int) < ((0 : Nat) : Int) := by omega
  repeat (first | ((with_reducible refine AWp.ofC ?_ ?_); (focus exact rfl); simp only [go_sem, hh]) | ((with_reducible refine an ?_ ?_); focus exact Au))
  refine ret_eq ?_; simp only [go_sem]
theorem ref15_SameRows0 : PC Go.Proofs.Tryz.prog 145 [.sl 1 [], anil] (ab true) := by
  refine PC.enter 27 [.tmp 4] [] Go.Proofs.Tryz.func145 rfl rfl rfl rfl rfl (by simp) (AWp.of ?_); simp only [go_sem]
  repeat (first | ((with_reducible refine AWp.ofC ?_ ?_); (focus exact rfl); simp only [go_sem]) | ((with_reducible refine an ?_ ?_); focus exact Au))
  refine AWp.block (AWp.count 5 0 [] [0, 1] (fun i vs L => L = []) rfl rfl rfl ?_)
  rintro i vs L hi - rfl
  have : i = 0 := by omega
  subst this
  simp only [go_sem]
  have hh : ¬ ((0 : Nat) : Int) < ((0 : Nat) : Int) := by omega
  repeat (first | ((with_reducible refine AWp.ofC ?_ ?_); (focus exact rfl); simp only [go_sem, hh]) | ((with_reducible refine an ?_ ?_); focus exact Au))
  refine ret_eq ?_; simp only [go_sem]
theorem ref39_SameAnswer0 : PC Go.Proofs.Tryz.prog 83 [aAns noAns, aNone0] (ab true) := by
  have h1 := ref15_SameList0
  have h2 := ref15_SameRows0
  unfold aAns aSps noAns aNone0 aRows aInts
  simp only [List.map_nil]
  refine PC.enter 78 [.tmp 4] [2, 3] Go.Proofs.Tryz.func83 rfl rfl rfl rfl rfl (by simp) (AWp.of ?_); simp only [go_sem]
  repeat (first | ((with_reducible refine AWp.ofC ?_ ?_); (focus exact rfl); simp only [go_sem]) | ((with_reducible refine an ?_ ?_); focus exact Au))
  refine AWp.block (AWp.count 5 0 [] [2, 3] (fun i vs L => L = []) rfl rfl rfl ?_)
  rintro i vs L hi - rfl
  have : i = 0 := by omega
  subst this
  simp only [go_sem]
  have hh : ¬ ((0 : Nat) : Int) < ((0 : Nat) : Int) := by omega
  repeat (first | ((with_reducible refine AWp.ofC ?_ ?_); (focus exact rfl); simp only [go_sem, hh]) | ((with_reducible refine an ?_ ?_); focus exact Au))
  repeat ((with_reducible refine an ?_ ?_); focus exact As)
  refine (h1).val.use ?_; simp only [go_sem]
  repeat ((with_reducible refine an ?_ ?_); focus exact As)
  refine GCall.use (ab true) (fun _ => ⟨At, (h2).val.use ⟨rfl, rfl⟩⟩) ?_; simp only [go_sem]
  repeat ((with_reducible refine an ?_ ?_); focus exact As)
  repeat ((with_reducible refine an ?_ ?_); focus exact As)
  refine GCall.use (ab true) (fun _ => ⟨At, (h2).val.use ⟨rfl, rfl⟩⟩) ?_; simp only [go_sem]
  repeat ((with_reducible refine an ?_ ?_); focus exact As)
  repeat (first | ((with_reducible refine AWp.ofC ?_ ?_); (focus exact rfl); simp only [go_sem]) | ((with_reducible refine an ?_ ?_); focus exact Au))
  refine ret_eq ?_; simp only [go_sem]
theorem law37_none0 : PC Go.Proofs.Tryz.prog 34 [aAns noAns] (ab true) := by
  have h1 := ref39_SameAnswer0
  unfold aNone0 at h1
  unfold aAns aSps noAns aRows aInts at *
  simp only [List.map_nil] at *
  refine PC.enter 12 [.tmp 2] [1] Go.Proofs.Tryz.func34 rfl rfl rfl rfl rfl (by simp) (AWp.of ?_); simp only [go_sem]
  repeat (first | ((with_reducible refine AWp.ofC ?_ ?_); (focus exact rfl); simp only [go_sem]) | ((with_reducible refine an ?_ ?_); focus exact Au))
  repeat ((with_reducible refine an ?_ ?_); focus exact As)
  refine (h1).val.use ?_; simp only [go_sem]
  repeat (first | ((with_reducible refine AWp.ofC ?_ ?_); (focus exact rfl); simp only [go_sem]) | ((with_reducible refine an ?_ ?_); focus exact Au))
  refine ret_eq ?_; simp only [go_sem]
  rfl
theorem law37_same (A : Ans) (hc : A.cut.length ≤ 1000000) (hp : A.spans.length ≤ 9223372036854775806) : PC Go.Proofs.Tryz.prog 36 [aAns A, aAns A] (ab true) := by
  have h1 := ints_equal A.cut A.cut hc
  have h2 := ref37_SameSpans A.spans A.spans hp hp
  rw [decide_eq_true rfl] at h1 h2
  obtain ⟨m0, m1, m2, m3, m4, m5, m6, m7⟩ := A
  unfold aAns
  unfold aSps at *
  simp only at *
  refine PC.enter 63 [.tmp 4] [2, 3] Go.Proofs.Tryz.func36 rfl rfl rfl rfl rfl (by simp) (AWp.of ?_); simp only [go_sem]
  repeat (first | ((with_reducible refine AWp.ofC ?_ ?_); (focus exact rfl); simp only [go_sem]) | ((with_reducible refine an ?_ ?_); focus exact Au))
  repeat ((with_reducible refine an ?_ ?_); focus exact As)
  refine GCall.use (ab true) (fun _ => ⟨At, (h1).val.use ⟨rfl, rfl⟩⟩) ?_; simp only [go_sem]
  repeat ((with_reducible refine an ?_ ?_); focus exact As)
  repeat ((with_reducible refine an ?_ ?_); focus exact As)
  refine GCall.use (ab true) (fun _ => ⟨At, (h2).val.use ⟨rfl, rfl⟩⟩) ?_; simp only [go_sem]
  repeat ((with_reducible refine an ?_ ?_); focus exact As)
  repeat (first | ((with_reducible refine AWp.ofC ?_ ?_); (focus exact rfl); simp only [go_sem]) | ((with_reducible refine an ?_ ?_); focus exact Au))
  refine ret_eq ?_; simp only [go_sem]
set_option maxHeartbeats 1000000 in
theorem law37_ConjunctiveFinds (ps : List Pr) (ts : List Pd) (htl : ts.length ≤ 9223372036854775807) : PC Go.Proofs.Tryz.prog 6 [aTr ps, .sl 6 (ts.map aPd)] (ab true) := by
  have haw := law37_awake
  have hbig := law37_big ps
  have hhu := law37_huge ts htl
  have hsm := @bigF_sm ps
  have hsize := fun h => law37_size ps h
  have hmz : manyF ts = false → ts.length ≤ 10 ∧ ∀ t ∈ ts, szF t ≤ 1000000 := fun h => ⟨(many_size h).1, fun t ht => by have := (many_size h).2 t ht; omega⟩
  refine PC.enter 129 [.tmp 4] [2, 5] Go.Proofs.Tryz.func6 rfl rfl rfl rfl rfl (by simp) (AWp.of ?_); simp only [go_sem]
  repeat (first | ((with_reducible refine AWp.ofC ?_ ?_); (focus exact rfl); simp only [go_sem]) | ((with_reducible refine an ?_ ?_); focus exact Au))
  repeat ((with_reducible refine an ?_ ?_); focus exact As)
  refine (haw).val.use ?_; simp only [go_sem]
  repeat (first | ((with_reducible refine AWp.ofC ?_ ?_); (focus exact rfl); simp only [go_sem]) | ((with_reducible refine an ?_ ?_); focus exact Au))
  repeat ((with_reducible refine an ?_ ?_); focus exact As)
  refine (hbig).val.use ?_; simp only [go_sem]
  repeat ((with_reducible refine an ?_ ?_); focus exact As)
  refine GCall.use (ab (manyF ts)) (fun _ => ⟨At, (hhu).val.use ⟨rfl, rfl⟩⟩) ?_; simp only [go_sem]
  repeat ((with_reducible refine an ?_ ?_); focus exact As)
  refine GCall.use (ai (off ps ps.length)) ?_ ?_
  · intro g; exact ⟨At, (hsize (hsm g.1)).val.use ⟨rfl, rfl⟩⟩
  simp only [go_sem]
  repeat ((with_reducible refine an ?_ ?_); focus exact As)
  repeat (first | ((with_reducible refine AWp.ofC ?_ ?_); (focus exact rfl); simp only [go_sem]) | ((with_reducible refine an ?_ ?_); focus exact Au))
  refine ⟨fun h1 => ?_, fun h1 => ?_⟩
  · repeat (first | ((with_reducible refine AWp.ofC ?_ ?_); (focus exact rfl); simp only [go_sem]) | ((with_reducible refine an ?_ ?_); focus exact Au))
    refine ret_eq ?_; simp only [go_sem]
  intro h2 h3
  have hs := hsm h1
  obtain ⟨hl10, hz⟩ := hmz h2
  have hP := conj_Possibly ps hs ts hz (by omega)
  have hS := conj_Steps ps hs ts hz (by omega)
  have hG := conj_Greatest ps hs ts hz (by omega)
  have hF := ref37_Fault ps hs ts hz (by omega)
  have hRS := fun h => ref37_Steps ps hs ts hz (by omega) h
  have hRP := fun h => ref37_Possibly ps hs ts hz (by omega) h
  have hRG := fun h => ref37_Greatest ps hs ts hz (by omega) h
  have hps := hs.procs
  have hroom : (stepsF (elimOf ps ts)).length ≤ 10000010000000 := by
    have hE := elim_sm hs ts
    have h := run_room hE (run_spec (elimOf ps ts)) (inE_zero _)
    have h2 : roomE (elimOf ps ts) (fun _ => 0) ≤ (elimOf ps ts).n * 1000001 := totS_le _ fun q hq => by have := hE.top q; omega
    have h3 : (elimOf ps ts).n * 1000001 ≤ 1000000 * 1000001 := Nat.mul_le_mul_right _ (by have := hE.n; omega)
    omega
  have hA : (ansOf (elimOf ps ts)).cut.length ≤ 1000000 ∧ (ansOf (elimOf ps ts)).spans.length ≤ 9223372036854775806 := by
    unfold ansOf
    split
    · exact ⟨by simp, by simp; omega⟩
    · refine ⟨?_, by simp⟩
      simp only [cutL_len]
      exact hps
  have hsame := law37_same (ansOf (elimOf ps ts)) hA.1 hA.2
  have hspan := same_st (stepsF (elimOf ps ts)) (by omega)
  have hnone := law37_none0
  unfold aPossR at hP
  unfold aGreat at hG
  clear haw hbig hhu hsm hsize hmz
  by_cases hf : conF ps ts = 0
  · have hRS := hRS hf
    have hRP := hRP hf
    have hRG := hRG hf
    rw [if_pos hf] at hP hS
    rw [if_neg (by simpa using hf)] at hG
    rw [hf] at hF
    generalize ansOf (elimOf ps ts) = A at *
    generalize stepsF (elimOf ps ts) = st at *
    generalize finF (elimOf ps ts) = fin at *
    generalize lostF (elimOf ps ts) = lo at *
    obtain ⟨m0, m1, m2, m3, m4, m5, m6, m7⟩ := A
    unfold aAns aSps at *
    simp only at *
    cases hgo : greatO ps (elimOf ps ts) with
    | none =>
      rw [hgo] at hG hRG
      simp only at hG hRG
      repeat (first | ((with_reducible refine AWp.ofC ?_ ?_); (focus exact rfl); simp only [go_sem]) | ((with_reducible refine an ?_ ?_); focus exact Au))
      repeat ((with_reducible refine an ?_ ?_); focus exact As)
      refine (hP).val.use ?_; simp only [go_sem]
      intro b5
      intros
      repeat (first | ((with_reducible refine AWp.ofC ?_ ?_); (focus exact rfl); simp only [go_sem]) | ((with_reducible refine an ?_ ?_); focus exact Au))
      repeat ((with_reducible refine an ?_ ?_); focus exact As)
      refine (hS).val.use ?_; simp only [go_sem]
      repeat (first | ((with_reducible refine AWp.ofC ?_ ?_); (focus exact rfl); simp only [go_sem]) | ((with_reducible refine an ?_ ?_); focus exact Au))
      repeat ((with_reducible refine an ?_ ?_); focus exact As)
      refine (hG).val.use ?_; simp only [go_sem]
      repeat (first | ((with_reducible refine AWp.ofC ?_ ?_); (focus exact rfl); simp only [go_sem]) | ((with_reducible refine an ?_ ?_); focus exact Au))
      repeat ((with_reducible refine an ?_ ?_); focus exact As)
      refine (hF).val.use ?_; simp only [go_sem]
      repeat (first | ((with_reducible refine AWp.ofC ?_ ?_); (focus exact rfl); simp only [go_sem]) | ((with_reducible refine an ?_ ?_); focus exact Au))
      repeat ((with_reducible refine an ?_ ?_); focus exact As)
      refine (hRS).val.use ?_; simp only [go_sem]
      refine AWp.seq (AWp.seq ?_)
      refine AWp.mix mixed [0, 1, 2, 3, 4, 5, 6, 7, 8, 9, 10, 11, 12, 13, 14, 15, 16, 17, 18, 19] .done (by kernel_rfl) ?_; simp only [go_sem]
      repeat ((with_reducible refine an ?_ ?_); focus exact As)
      refine GCall.use _ (fun _ => ⟨At, hRP.val.use ⟨rfl, rfl⟩⟩) ?_
      simp only [go_sem]
      repeat ((with_reducible refine an ?_ ?_); focus exact As)
      repeat ((with_reducible refine an ?_ ?_); focus exact As)
      refine GCall.use (ab true) (fun _ => ⟨At, (hsame).val.use ⟨rfl, rfl⟩⟩) ?_; simp only [go_sem]
      repeat ((with_reducible refine an ?_ ?_); focus exact As)
      repeat ((with_reducible refine an ?_ ?_); focus exact As)
      refine GCall.use (ab true) (fun _ => ⟨At, (hspan).val.use ⟨rfl, rfl⟩⟩) ?_; simp only [go_sem]
      repeat ((with_reducible refine an ?_ ?_); focus exact As)
      repeat (first | ((with_reducible refine AWp.ofC ?_ ?_); (focus exact rfl); simp only [go_sem]) | ((with_reducible refine an ?_ ?_); focus exact Au))
      repeat ((with_reducible refine an ?_ ?_); focus exact As)
      refine (hRG).val.use ?_; simp only [go_sem]
      repeat (first | ((with_reducible refine AWp.ofC ?_ ?_); (focus exact rfl); simp only [go_sem]) | ((with_reducible refine an ?_ ?_); focus exact Au))
      refine ret_eq ?_; simp only [go_sem]
      rfl
    | some c =>
      rw [hgo] at hG hRG
      simp only at hG hRG
      have hcl := greatO_len hgo
      have hsq := ints_equal c c (by omega)
      rw [decide_eq_true rfl] at hsq
      repeat (first | ((with_reducible refine AWp.ofC ?_ ?_); (focus exact rfl); simp only [go_sem]) | ((with_reducible refine an ?_ ?_); focus exact Au))
      repeat ((with_reducible refine an ?_ ?_); focus exact As)
      refine (hP).val.use ?_; simp only [go_sem]
      intro b5
      intros
      repeat (first | ((with_reducible refine AWp.ofC ?_ ?_); (focus exact rfl); simp only [go_sem]) | ((with_reducible refine an ?_ ?_); focus exact Au))
      repeat ((with_reducible refine an ?_ ?_); focus exact As)
      refine (hS).val.use ?_; simp only [go_sem]
      repeat (first | ((with_reducible refine AWp.ofC ?_ ?_); (focus exact rfl); simp only [go_sem]) | ((with_reducible refine an ?_ ?_); focus exact Au))
      repeat ((with_reducible refine an ?_ ?_); focus exact As)
      refine (hG).val.use ?_; simp only [go_sem]
      repeat (first | ((with_reducible refine AWp.ofC ?_ ?_); (focus exact rfl); simp only [go_sem]) | ((with_reducible refine an ?_ ?_); focus exact Au))
      repeat ((with_reducible refine an ?_ ?_); focus exact As)
      refine (hF).val.use ?_; simp only [go_sem]
      repeat (first | ((with_reducible refine AWp.ofC ?_ ?_); (focus exact rfl); simp only [go_sem]) | ((with_reducible refine an ?_ ?_); focus exact Au))
      repeat ((with_reducible refine an ?_ ?_); focus exact As)
      refine (hRS).val.use ?_; simp only [go_sem]
      repeat (first | ((with_reducible refine AWp.ofC ?_ ?_); (focus exact rfl); simp only [go_sem]) | ((with_reducible refine an ?_ ?_); focus exact Au))
      refine AWp.seq (AWp.seq ?_)
      refine AWp.mix mixed [0, 1, 2, 3, 4, 5, 6, 7, 8, 9, 10, 11, 12, 13, 14, 15, 16, 17, 18, 19] .done (by kernel_rfl) ?_; simp only [go_sem]
      repeat ((with_reducible refine an ?_ ?_); focus exact As)
      refine GCall.use _ (fun _ => ⟨At, hRP.val.use ⟨rfl, rfl⟩⟩) ?_
      simp only [go_sem]
      repeat ((with_reducible refine an ?_ ?_); focus exact As)
      repeat ((with_reducible refine an ?_ ?_); focus exact As)
      refine GCall.use (ab true) (fun _ => ⟨At, (hsame).val.use ⟨rfl, rfl⟩⟩) ?_; simp only [go_sem]
      repeat ((with_reducible refine an ?_ ?_); focus exact As)
      repeat ((with_reducible refine an ?_ ?_); focus exact As)
      refine GCall.use (ab true) (fun _ => ⟨At, (hspan).val.use ⟨rfl, rfl⟩⟩) ?_; simp only [go_sem]
      repeat ((with_reducible refine an ?_ ?_); focus exact As)
      repeat (first | ((with_reducible refine AWp.ofC ?_ ?_); (focus exact rfl); simp only [go_sem]) | ((with_reducible refine an ?_ ?_); focus exact Au))
      repeat ((with_reducible refine an ?_ ?_); focus exact As)
      refine (hRG).val.use ?_; simp only [go_sem]
      repeat (first | ((with_reducible refine AWp.ofC ?_ ?_); (focus exact rfl); simp only [go_sem]) | ((with_reducible refine an ?_ ?_); focus exact Au))
      repeat ((with_reducible refine an ?_ ?_); focus exact As)
      refine GCall.use (ab true) (fun _ => ⟨At, (hsq).val.use ⟨rfl, rfl⟩⟩) ?_; simp only [go_sem]
      repeat ((with_reducible refine an ?_ ?_); focus exact As)
      repeat (first | ((with_reducible refine AWp.ofC ?_ ?_); (focus exact rfl); simp only [go_sem]) | ((with_reducible refine an ?_ ?_); focus exact Au))
      refine ret_eq ?_; simp only [go_sem]
  · rw [if_neg hf] at hP hS
    rw [if_pos hf] at hG
    unfold aAns aSps noAns at hP hnone
    simp only at hP hnone
    generalize conF ps ts = C at *
    repeat (first | ((with_reducible refine AWp.ofC ?_ ?_); (focus exact rfl); simp only [go_sem]) | ((with_reducible refine an ?_ ?_); focus exact Au))
    repeat ((with_reducible refine an ?_ ?_); focus exact As)
    refine (hP).val.use ?_; simp only [go_sem]
    intro b5
    intros
    repeat (first | ((with_reducible refine AWp.ofC ?_ ?_); (focus exact rfl); simp only [go_sem]) | ((with_reducible refine an ?_ ?_); focus exact Au))
    repeat ((with_reducible refine an ?_ ?_); focus exact As)
    refine (hS).val.use ?_; simp only [go_sem]
    repeat (first | ((with_reducible refine AWp.ofC ?_ ?_); (focus exact rfl); simp only [go_sem]) | ((with_reducible refine an ?_ ?_); focus exact Au))
    repeat ((with_reducible refine an ?_ ?_); focus exact As)
    refine (hG).val.use ?_; simp only [go_sem]
    repeat (first | ((with_reducible refine AWp.ofC ?_ ?_); (focus exact rfl); simp only [go_sem]) | ((with_reducible refine an ?_ ?_); focus exact Au))
    repeat ((with_reducible refine an ?_ ?_); focus exact As)
    refine (hF).val.use ?_; simp only [go_sem]
    repeat (first | ((with_reducible refine AWp.ofC ?_ ?_); (focus exact rfl); simp only [go_sem, hf]) | ((with_reducible refine an ?_ ?_); focus exact Au))
    repeat ((with_reducible refine an ?_ ?_); focus exact As)
    refine GCall.use (ab true) (fun _ => ⟨At, (hnone).val.use ⟨rfl, rfl⟩⟩) ?_; simp only [go_sem]
    repeat ((with_reducible refine an ?_ ?_); focus exact As)
    repeat (first | ((with_reducible refine AWp.ofC ?_ ?_); (focus exact rfl); simp only [go_sem]) | ((with_reducible refine an ?_ ?_); focus exact Au))
    refine ret_eq ?_; simp only [go_sem]
    rfl
end Go.AL
end
