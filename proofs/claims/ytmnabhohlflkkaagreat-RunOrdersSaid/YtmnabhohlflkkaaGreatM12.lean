/- Texts of this claim's proof: WQk, WQl, WQm. No condition. -/
import Derived.Test.YtmnabhohlflkkaaGreatM11
import Derived.Test.YtmnabhohlflkkaaGreatM4
section
/- The package run: Is, Events, Of. No condition. -/
namespace Go.AL
open Go Go.RowKit
set_option maxRecDepth 4000
noncomputable def isR (ps : List Pr) (r : List (List Int)) : Bool := validF ps && isRunF ps r
theorem run_Is (ps : List Pr) (hs : Sm ps) (r : List (List Int)) (hl : r.length ≤ 1000000) (hx : ∀ x ∈ r, x.length ≤ 1000000) : PC Go.Proofs.Tryz.prog 32 [aTr ps, aRows r] (ab (isR ps r)) := by
  have hva := trace_Valid ps hs
  unfold isR
  cases hv : validF ps with
  | false =>
    rw [hv] at hva
    refine PC.enter 18 [.tmp 4] [2] Go.Proofs.Tryz.func32 rfl rfl rfl rfl rfl (by simp) (AWp.of ?_); simp only [go_sem]
    repeat (first | ((with_reducible refine AWp.ofC ?_ ?_); (focus exact rfl); simp only [go_sem]) | ((with_reducible refine an ?_ ?_); focus exact Au))
    repeat ((with_reducible refine an ?_ ?_); focus exact As)
    refine (hva).val.use ?_; simp only [go_sem]
    repeat (first | ((with_reducible refine AWp.ofC ?_ ?_); (focus exact rfl); simp only [go_sem]) | ((with_reducible refine an ?_ ?_); focus exact Au))
    refine ret_eq ?_; simp only [go_sem]
  | true =>
    rw [hv] at hva
    have hop := run_open ps hs hv
    have hst := run_steps ps hs hv r hl hx
    rw [stpsF_run] at hst
    generalize stpsR ps r = S at *
    generalize isRunF ps r = b at *
    unfold aRs at hop hst
    refine PC.enter 18 [.tmp 4] [2] Go.Proofs.Tryz.func32 rfl rfl rfl rfl rfl (by simp) (AWp.of ?_); simp only [go_sem]
    repeat (first | ((with_reducible refine AWp.ofC ?_ ?_); (focus exact rfl); simp only [go_sem]) | ((with_reducible refine an ?_ ?_); focus exact Au))
    repeat ((with_reducible refine an ?_ ?_); focus exact As)
    refine (hva).val.use ?_; simp only [go_sem]
    repeat (first | ((with_reducible refine AWp.ofC ?_ ?_); (focus exact rfl); simp only [go_sem]) | ((with_reducible refine an ?_ ?_); focus exact Au))
    repeat ((with_reducible refine an ?_ ?_); focus exact As)
    refine (hop).val.use ?_; simp only [go_sem]
    repeat (first | ((with_reducible refine AWp.ofC ?_ ?_); (focus exact rfl); simp only [go_sem]) | ((with_reducible refine an ?_ ?_); focus exact Au))
    repeat ((with_reducible refine an ?_ ?_); focus exact As)
    refine (hst).val.use ?_; simp only [go_sem]
    repeat (first | ((with_reducible refine AWp.ofC ?_ ?_); (focus exact rfl); simp only [go_sem]) | ((with_reducible refine an ?_ ?_); focus exact Au))
    refine ret_eq ?_; simp only [go_sem]
theorem evtP_get : ∀ {r : List (List Int)} {l : List Nat} {k : Nat} (hk : k < l.length) (hr : k < r.length), (evtP r l)[k]? = some ((l[k] : Int), cAt r[k] l[k] + 1)
  | [], _, _, _, hr => by cases hr
  | _ :: _, [], _, hk, _ => by cases hk
  | a :: r, p :: l, 0, _, _ => rfl
  | a :: r, p :: l, k + 1, hk, hr => by
    show (evtP r l)[k]? = _
    exact evtP_get (by simpa using hk) (by simpa using hr)
theorem evtP_len : ∀ {r : List (List Int)} {l : List Nat}, l.length ≤ r.length → (evtP r l).length = l.length
  | [], [], _ => rfl
  | [], _ :: _, h => by simp at h
  | _ :: _, [], _ => rfl
  | a :: r, p :: l, h => by
    show (evtP r l).length + 1 = _
    rw [evtP_len (by simpa using h), List.length_cons]
theorem stps_get {ps : List Pr} : ∀ {r : List (List Int)} {a : List Int} {l : List Nat}, isF ps a = true → stpsG ps a r = some l → l.length = r.length ∧ ∀ (k : Nat) (hk : k < l.length), l[k] < ps.length ∧ isF ps ((a :: r).getD k []) = true
  | [], a, l, ha, h => by
    have : l = [] := (Option.some.inj h).symm
    subst this; exact ⟨rfl, fun k hk => by cases hk⟩
  | b :: r, a, l, ha, h => by
    have e : stpsG ps a (b :: r) = match stpP ps a b with
      | none => none
      | some p => (stpsG ps b r).map (p :: ·) := rfl
    rw [e] at h
    cases hp : stpP ps a b with
    | none => rw [hp] at h; cases h
    | some p =>
      rw [hp] at h
      simp only at h
      cases hs : stpsG ps b r with
      | none => rw [hs] at h; cases h
      | some l' =>
        rw [hs] at h
        have hl : l = p :: l' := (Option.some.inj h).symm
        subst hl
        obtain ⟨g1, g2, g3⟩ := (stpP_some (isF_iff.1 ha).1).1 hp
        have hb : isF ps b = true := by rw [g3]; exact rdy_is g2
        obtain ⟨i1, i2⟩ := stps_get hb hs
        refine ⟨by rw [List.length_cons, List.length_cons, i1], fun k hk => ?_⟩
        cases k with
        | zero => exact ⟨g1, ha⟩
        | succ k => exact i2 k (by simpa using hk)
noncomputable def evnE (ps : List Pr) (r : List (List Int)) : Int := if validF ps = true then (if isRunF ps r = true then 0 else 3) else 1
noncomputable def evnF (ps : List Pr) (r : List (List Int)) : List Eid := if evnE ps r = 0 then evtF r else []
theorem run_Events (ps : List Pr) (hs : Sm ps) (r : List (List Int)) (hl : r.length ≤ 1000000) (hx : ∀ x ∈ r, x.length ≤ 1000000) : PC Go.Proofs.Tryz.prog 33 [aTr ps, aRows r] (.tup [aEids (evnF ps r), ai (evnE ps r)]) := by
  have hva := trace_Valid ps hs
  have haR : ∀ x : List (List Int), aRows x = .sl 1 (x.map aInts) := fun _ => rfl
  unfold evnF evnE
  cases hv : validF ps with
  | false =>
    rw [hv] at hva
    refine PC.enter 45 [.tmp 4, .tmp 5] [2, 41] Go.Proofs.Tryz.func33 rfl rfl rfl rfl rfl (by simp) (AWp.of ?_); simp only [go_sem]
    repeat (first | ((with_reducible refine AWp.ofC ?_ ?_); (focus exact rfl); simp only [go_sem]) | ((with_reducible refine an ?_ ?_); focus exact Au))
    repeat ((with_reducible refine an ?_ ?_); focus exact As)
    refine (hva).val.use ?_; simp only [go_sem]
    repeat (first | ((with_reducible refine AWp.ofC ?_ ?_); (focus exact rfl); simp only [go_sem]) | ((with_reducible refine an ?_ ?_); focus exact Au))
    refine ret_view [] ?_; simp only [go_sem]
    exact .mkTup (Vws.cons (.nil 2) (Vws.refl _))
  | true =>
    rw [hv] at hva
    have hop := run_open ps hs hv
    have hst := run_steps ps hs hv r hl hx
    cases hr : isRunF ps r with
    | false =>
      rw [stpsF_run, hr] at hst
      generalize stpsR ps r = S at *
      unfold aRs at hop hst
      refine PC.enter 45 [.tmp 4, .tmp 5] [2, 41] Go.Proofs.Tryz.func33 rfl rfl rfl rfl rfl (by simp) (AWp.of ?_); simp only [go_sem]
      repeat (first | ((with_reducible refine AWp.ofC ?_ ?_); (focus exact rfl); simp only [go_sem]) | ((with_reducible refine an ?_ ?_); focus exact Au))
      repeat ((with_reducible refine an ?_ ?_); focus exact As)
      refine (hva).val.use ?_; simp only [go_sem]
      repeat (first | ((with_reducible refine AWp.ofC ?_ ?_); (focus exact rfl); simp only [go_sem]) | ((with_reducible refine an ?_ ?_); focus exact Au))
      repeat ((with_reducible refine an ?_ ?_); focus exact As)
      refine (hop).val.use ?_; simp only [go_sem]
      repeat (first | ((with_reducible refine AWp.ofC ?_ ?_); (focus exact rfl); simp only [go_sem]) | ((with_reducible refine an ?_ ?_); focus exact Au))
      repeat ((with_reducible refine an ?_ ?_); focus exact As)
      refine (hst).val.use ?_; simp only [go_sem]
      repeat (first | ((with_reducible refine AWp.ofC ?_ ?_); (focus exact rfl); simp only [go_sem]) | ((with_reducible refine an ?_ ?_); focus exact Au))
      refine ret_view [] ?_; simp only [go_sem]
      exact .mkTup (Vws.cons (.nil 2) (Vws.refl _))
    | true =>
      obtain ⟨R, rfl, hch, hgl⟩ := isrun_inv hr
      obtain ⟨l, hl0⟩ : ∃ l, stpsG ps (zeroC ps) R = some l := by
        have := stpsG_chn (r := R) (zeroC_is ps)
        rw [hch] at this
        exact Option.isSome_iff_exists.1 this
      have hsF : stpsF ps (zeroC ps :: R) = some l := by
        show (if zeroC ps = zeroC ps ∧ (zeroC ps :: R).getLast? = some (fullC ps) then stpsG ps (zeroC ps) R else none) = _
        rw [if_pos ⟨rfl, hgl⟩, hl0]
      obtain ⟨hev, _⟩ := evt_eq (zeroC_is ps) hl0
      obtain ⟨hll, hgt⟩ := stps_get (zeroC_is ps) hl0
      have hlen := evtP_len (r := zeroC ps :: R) (l := l) (by rw [List.length_cons]; omega)
      have e1 : stpsR ps (zeroC ps :: R) = l.map fun (p : Nat) => (p : Int) := by unfold stpsR; rw [hsF]; rfl
      rw [e1, hsF] at hst
      have hef : evtF (zeroC ps :: R) = evtP (zeroC ps :: R) l := hev.symm
      rw [if_pos rfl, if_pos rfl, if_pos rfl, hef]
      have hRl : R.length ≤ 1000000 := by rw [List.length_cons] at hl; omega
      have hml : ((l.map fun (p : Nat) => (p : Int)).map ai).length = l.length := by rw [List.length_map, List.length_map]
      rw [haR] at hst ⊢
      have hrn : (zeroC ps :: R).length = l.length + 1 := by rw [List.length_cons, hll]
      have hge : ∀ k (hk : k < l.length), (evtP (zeroC ps :: R) l)[k]? = some ((l[k] : Int), cAt ((zeroC ps :: R).getD k []) l[k] + 1) := fun k hk => by
        have hkr : k < (zeroC ps :: R).length := by omega
        rw [evtP_get hk hkr, List.getD_eq_getElem?_getD, List.getElem?_eq_getElem hkr]; rfl
      clear hev
      generalize hr2 : zeroC ps :: R = r at *
      unfold aRs at hop hst
      refine PC.enter 45 [.tmp 4, .tmp 5] [2, 41] Go.Proofs.Tryz.func33 rfl rfl rfl rfl rfl (by simp) (AWp.of ?_); simp only [go_sem]
      repeat (first | ((with_reducible refine AWp.ofC ?_ ?_); (focus exact rfl); simp only [go_sem]) | ((with_reducible refine an ?_ ?_); focus exact Au))
      repeat ((with_reducible refine an ?_ ?_); focus exact As)
      refine (hva).val.use ?_; simp only [go_sem]
      repeat (first | ((with_reducible refine AWp.ofC ?_ ?_); (focus exact rfl); simp only [go_sem]) | ((with_reducible refine an ?_ ?_); focus exact Au))
      repeat ((with_reducible refine an ?_ ?_); focus exact As)
      refine (hop).val.use ?_; simp only [go_sem]
      repeat (first | ((with_reducible refine AWp.ofC ?_ ?_); (focus exact rfl); simp only [go_sem]) | ((with_reducible refine an ?_ ?_); focus exact Au))
      repeat ((with_reducible refine an ?_ ?_); focus exact As)
      refine (hst).val.use ?_; simp only [go_sem]
      repeat (first | ((with_reducible refine AWp.ofC ?_ ?_); (focus exact rfl); simp only [go_sem, hml]) | ((with_reducible refine an ?_ ?_); focus exact Au))
      refine AWp.range' l.length [8] [1, 23, 24] (fun k vs L => ∃ v, vs = [v] ∧ AppSt 66 2 (((evtP r l).take k).map aEid) v L) (by omega) rfl rfl rfl ⟨_, rfl, by rw [List.take_zero]; exact .nil⟩ ?_ ?_
      · rintro k vs L hk - ⟨v, rfl, hA⟩
        have hkr : k < r.length := by omega
        obtain ⟨q1, q2⟩ := hgt k hk
        have hgc : r.getD k [] = r[k] := by rw [List.getD_eq_getElem?_getD, List.getElem?_eq_getElem hkr]; rfl
        rw [hgc] at q2
        have hcl := (isF_iff.1 q2).1
        have hcb := (isF_cb hs q2).2
        have g1 : ((l.map fun (p : Nat) => (p : Int)).map ai).getD k .any = ai (l[k] : Nat) := by
          rw [List.map_map]; exact getD_map (f := fun (p : Nat) => ai p) hk
        have g2 := getD_map (f := aInts) hkr
        have g3 := getD_map (f := ai) (l := r[k]) (k := l[k]) (by omega)
        have hb := hcb _ (List.getElem_mem (show l[k] < r[k].length by omega))
        have htk : ((evtP r l).take (k + 1)).map aEid = ((evtP r l).take k).map aEid ++ [.agg [ai (l[k] : Nat), ai (r[k][l[k]] + 1)]] := by
          have h1 := hge k hk
          rw [hgc] at h1
          rw [List.take_add_one, h1, List.map_append]
          show _ ++ [aEid ((l[k] : Int), cAt r[k] l[k] + 1)] = _
          rw [cAt_nat (show l[k] < r[k].length by omega)]
          rfl
        have hyl : (((evtP r l).take k).map aEid).length = k := by rw [List.length_map, List.length_take, hlen]; omega
        rw [htk]
        generalize ((evtP r l).take k).map aEid = ys at *
        generalize r[k][l[k]] = z at *
        generalize r[k] = c at *
        generalize l[k] = p at *
        rcases hA.inv with ⟨e5, rfl, rfl⟩ | ⟨bo, cap, rfl, rfl⟩
        · simp only [go_sem]
          repeat (first | ((with_reducible refine AWp.ofC ?_ ?_); (focus exact rfl); simp only [go_sem, g1, g2, g3]) | ((with_reducible refine an ?_ ?_); focus exact Au))
          intro b' cap' hc'
          exact ⟨_, List.Sublist.refl _, _, rfl, by rw [e5]; exact .row b' [_] cap'⟩
        · simp only [go_sem]
          repeat (first | ((with_reducible refine AWp.ofC ?_ ?_); (focus exact rfl); simp only [go_sem, g1, g2, g3]) | ((with_reducible refine an ?_ ?_); focus exact Au))
          intro b' cap' hc'
          exact ⟨_, List.Sublist.refl _, _, rfl, AppSt.snoc b' cap' _ rfl⟩
      · rintro vs L - ⟨v, rfl, hA⟩
        rw [show l.length = (evtP r l).length by rw [hlen], List.take_length] at hA
        generalize (evtP r l).map aEid = ys at *
        rcases hA.inv with ⟨e5, rfl, rfl⟩ | ⟨bo, cap, rfl, rfl⟩
        · rw [e5]
          simp only [go_sem]
          repeat (first | ((with_reducible refine AWp.ofC ?_ ?_); (focus exact rfl); simp only [go_sem]) | ((with_reducible refine an ?_ ?_); focus exact Au))
          refine ret_view [] ?_; simp only [go_sem]
          exact .mkTup (Vws.cons (.nil 2) (Vws.refl _))
        · simp only [go_sem]
          repeat (first | ((with_reducible refine AWp.ofC ?_ ?_); (focus exact rfl); simp only [go_sem]) | ((with_reducible refine an ?_ ?_); focus exact Au))
          refine ret_view [true] ?_; simp only [go_sem]
          exact .mkTup (Vws.cons (Vw.ofLs (if_pos rfl) rfl) (Vws.refl _))
noncomputable def ofVE (ps : List Pr) (l : List Eid) : Int := if validF ps = true then (if (ofF ps l).isSome = true then 0 else 11) else 1
noncomputable def ofVF (ps : List Pr) (l : List Eid) : List (List Int) := if ofVE ps l = 0 then (ofF ps l).getD [] else []
set_option maxHeartbeats 1000000 in
theorem run_Of (ps : List Pr) (hs : Sm ps) (l : List Eid) (hl : l.length ≤ 1000000) : PC Go.Proofs.Tryz.prog 34 [aTr ps, aEids l] (.tup [aRows (ofVF ps l), ai (ofVE ps l)]) := by
  have hva := trace_Valid ps hs
  have haE : aEids l = .sl 2 (l.map aEid) := rfl
  rw [haE]
  cases hv : validF ps with
  | false =>
    rw [hv] at hva
    have e1 : ofVE ps l = 1 := by unfold ofVE; rw [hv]; rfl
    have e2 : ofVF ps l = [] := by unfold ofVF; rw [e1]; rfl
    rw [e1, e2]
    refine PC.enter 58 [.tmp 4, .tmp 5] [2, 10, 49] Go.Proofs.Tryz.func34 rfl rfl rfl rfl rfl (by simp) (AWp.of ?_); simp only [go_sem]
    repeat (first | ((with_reducible refine AWp.ofC ?_ ?_); (focus exact rfl); simp only [go_sem]) | ((with_reducible refine an ?_ ?_); focus exact Au))
    repeat ((with_reducible refine an ?_ ?_); focus exact As)
    refine (hva).val.use ?_; simp only [go_sem]
    repeat (first | ((with_reducible refine AWp.ofC ?_ ?_); (focus exact rfl); simp only [go_sem]) | ((with_reducible refine an ?_ ?_); focus exact Au))
    refine ret_view [] ?_; simp only [go_sem]
    exact .mkTup (Vws.cons (.nil 1) (Vws.refl _))
  | true =>
    rw [hv] at hva
    have hop := run_open ps hs hv
    have hz := run_zero ps hv
    have hfu := run_full ps hs hv
    have hmay := run_may ps hs hv
    have hl8 := (valid_len hv).2
    have hE : ∀ o, ofF ps l = o → ofVE ps l = (if o.isSome = true then 0 else 11) ∧ ofVF ps l = o.getD [] := fun o h => by
      have e1 : ofVE ps l = (if o.isSome = true then 0 else 11) := by unfold ofVE; rw [hv, if_pos rfl, h]
      refine ⟨e1, ?_⟩
      unfold ofVF
      rw [e1, h]
      cases o <;> rfl
    obtain ⟨r, hr⟩ : ∃ r, r = aRs ps := ⟨_, rfl⟩
    have hrf : fo r = (True, r) := by rw [hr]; rfl
    rw [← hr] at hop hz hfu hmay
    clear hr
    refine PC.enter 58 [.tmp 4, .tmp 5] [2, 10, 49] Go.Proofs.Tryz.func34 rfl rfl rfl rfl rfl (by simp) (AWp.of ?_); simp only [go_sem]
    repeat (first | ((with_reducible refine AWp.ofC ?_ ?_); (focus exact rfl); simp only [go_sem]) | ((with_reducible refine an ?_ ?_); focus exact Au))
    repeat ((with_reducible refine an ?_ ?_); focus exact As)
    refine (hva).val.use ?_; simp only [go_sem]
    repeat (first | ((with_reducible refine AWp.ofC ?_ ?_); (focus exact rfl); simp only [go_sem]) | ((with_reducible refine an ?_ ?_); focus exact Au))
    repeat ((with_reducible refine an ?_ ?_); focus exact As)
    refine (hop).val.use ?_; simp only [go_sem, hrf]
    repeat (first | ((with_reducible refine AWp.ofC ?_ ?_); (focus exact rfl); simp only [go_sem, hrf]) | ((with_reducible refine an ?_ ?_); focus exact Au))
    repeat ((with_reducible refine an ?_ ?_); focus exact As)
    refine (hz).val.use ?_; simp only [go_sem]
    repeat (first | ((with_reducible refine AWp.ofC ?_ ?_); (focus exact rfl); simp only [go_sem]) | ((with_reducible refine an ?_ ?_); focus exact Au))
    intro b19
    repeat (first | ((with_reducible refine AWp.ofC ?_ ?_); (focus exact rfl); simp only [go_sem]) | ((with_reducible refine an ?_ ?_); focus exact Au))
    refine AWp.range' l.length [7, 8] [6, 20, 21] (fun k vs L => ∃ (c : List Int) (O : List (List Int)) (v : AV), vs = [aInts c, v] ∧ isF ps c = true ∧ O.length = k + 1 ∧ O.getLast? = some c ∧ (ofR ps (zeroC ps) l).map (zeroC ps :: ·) = (ofR ps c (l.drop k)).map (O ++ ·) ∧ AppSt 42 1 (O.map aInts) v L) (by omega) rfl rfl rfl ⟨zeroC ps, [zeroC ps], _, rfl, zeroC_is ps, rfl, rfl, rfl, .row _ _ _⟩ ?_ ?_
    · rintro k vs L hk - ⟨c, O, v, rfl, hc, hOl, hOg, hst, hA⟩
      have hgk := getD_map (f := aEid) hk
      have hdr : l.drop k = l[k] :: l.drop (k + 1) := by rw [List.getElem_cons_drop]
      rw [hdr, ofR_cons] at hst
      have hcl := (isF_iff.1 hc).1
      have hcb := isF_cb hs hc
      have hOm : (O.map aInts).length = k + 1 := by rw [List.length_map, hOl]
      obtain ⟨bo, cap, rfl, rfl⟩ : ∃ bo cap, v = .ls bo 1 0 (O.map aInts).length cap ∧ L = [(bo, .row 42 1 (O.map aInts) cap)] := by
        rcases hA.inv with ⟨e1, _, _⟩ | h
        · rw [e1] at hOm; simp at hOm
        · exact h
      have hno : ∀ {o : Option (List (List Int))}, (ofR ps (zeroC ps) l).map (zeroC ps :: ·) = o → o = none → ofVE ps l = 11 ∧ ofVF ps l = [] := fun h1 h2 => by
        subst h2
        have h3 : ofR ps (zeroC ps) l = none := by
          cases hx : ofR ps (zeroC ps) l with
          | none => rfl
          | some R => rw [hx] at h1; cases h1
        exact hE none (by unfold ofF; rw [h3])
      generalize l[k] = x at *
      obtain ⟨x1, x2⟩ := x
      have hmp := hmay c hc x1
      change (l.map aEid).getD k .any = .agg [ai x1, ai x2] at hgk
      by_cases hmf : mayF ps c x1 = true
      · rw [hmf] at hmp
        unfold mayF at hmf
        rw [Bool.and_eq_true, decide_eq_true_eq] at hmf
        obtain ⟨⟨m1, m2⟩, m3⟩ := hmf
        obtain ⟨p, rfl⟩ : ∃ p : Nat, x1 = p := ⟨x1.toNat, by omega⟩
        have ep : ((p : Int)).toNat = p := by omega
        rw [ep] at m3
        have hp : p < c.length := by omega
        have g1 := getD_map (f := ai) hp
        have hb := hcb.2 _ (List.getElem_mem hp)
        have hne := run_next c hcb.1 hcb.2 p hp
        simp only [ep] at hst
        rw [cAt_nat hp] at hst
        by_cases hx2 : x2 = c[p] + 1
        · rw [if_pos ⟨⟨m1, m2⟩, m3, hx2⟩] at hst
          have hOa : (O ++ [stpC c p]).map aInts = O.map aInts ++ [.sl 1 ((stpC c p).map ai)] := by rw [List.map_append]; rfl
          have hst : (ofR ps (zeroC ps) l).map (zeroC ps :: ·) = (ofR ps (stpC c p) (l.drop (k + 1))).map ((O ++ [stpC c p]) ++ ·) := by
            rw [hst]
            cases ofR ps (stpC c p) (l.drop (k + 1)) with
            | none => rfl
            | some S => simp
          simp only [go_sem]
          repeat (first | ((with_reducible refine AWp.ofC ?_ ?_); (focus exact rfl); simp only [go_sem, hgk]) | ((with_reducible refine an ?_ ?_); focus exact Au))
          intro b10 g10
          repeat (first | ((with_reducible refine AWp.ofC ?_ ?_); (focus exact rfl); simp only [go_sem, hrf]) | ((with_reducible refine an ?_ ?_); focus exact Au))
          refine AWp.seq (AWp.seq ?_)
          repeat (first | (with_reducible refine AWp.seq ?_) | (with_reducible refine AWp.block ?_))
          refine AWp.read mixed [0, 1, 2, 3, 4, 5, 6, 7, 8, 9, 10, 11, 12, 13, 14, 15, 16] (by kernel_rfl) ?_; simp only [go_sem, hx2, hrf]
          repeat ((with_reducible refine an ?_ ?_); focus exact As)
          repeat ((with_reducible refine an ?_ ?_); focus exact As)
          refine GCall.use (ab true) (fun _ => ⟨At, (hmp).val.use ⟨rfl, rfl⟩⟩) ?_; simp only [go_sem, g1]
          repeat (first | ((with_reducible refine AWp.ofC ?_ ?_); (focus exact rfl); simp only [go_sem]) | ((with_reducible refine an ?_ ?_); focus exact Au))
          repeat ((with_reducible refine an ?_ ?_); focus exact As)
          refine (hne).val.use ?_; simp only [go_sem]
          repeat (first | ((with_reducible refine AWp.ofC ?_ ?_); (focus exact rfl); simp only [go_sem]) | ((with_reducible refine an ?_ ?_); focus exact Au))
          intro b' cap' hc'
          refine ⟨_, List.Sublist.refl _, stpC c p, O ++ [stpC c p], _, rfl, rdy_is m3, by rw [List.length_append, hOl]; rfl, by simp, hst, ?_⟩
          rw [hOa]
          exact AppSt.snoc b' cap' _ (by rw [List.length_map])
        · rw [if_neg (fun h => hx2 h.2.2)] at hst
          obtain ⟨e1, e2⟩ := hno hst rfl
          rw [e1, e2]
          simp only [go_sem]
          repeat (first | ((with_reducible refine AWp.ofC ?_ ?_); (focus exact rfl); simp only [go_sem, hgk]) | ((with_reducible refine an ?_ ?_); focus exact Au))
          intro b10 g10
          repeat (first | ((with_reducible refine AWp.ofC ?_ ?_); (focus exact rfl); simp only [go_sem, hrf]) | ((with_reducible refine an ?_ ?_); focus exact Au))
          refine AWp.seq (AWp.seq ?_)
          repeat (first | (with_reducible refine AWp.seq ?_) | (with_reducible refine AWp.block ?_))
          refine AWp.read mixed [0, 1, 2, 3, 4, 5, 6, 7, 8, 9, 10, 11, 12, 13, 14, 15, 16] (by kernel_rfl) ?_; simp only [go_sem, hrf]
          repeat ((with_reducible refine an ?_ ?_); focus exact As)
          repeat ((with_reducible refine an ?_ ?_); focus exact As)
          refine GCall.use (ab true) (fun _ => ⟨At, (hmp).val.use ⟨rfl, rfl⟩⟩) ?_; simp only [go_sem, g1, hx2]
          repeat (first | ((with_reducible refine AWp.ofC ?_ ?_); (focus exact rfl); simp only [go_sem]) | ((with_reducible refine an ?_ ?_); focus exact Au))
          refine ret_view [] ?_; simp only [go_sem]
          exact .mkTup (Vws.cons (.nil 1) (Vws.refl _))
      · have hmf : mayF ps c x1 = false := by simpa using hmf
        rw [hmf] at hmp
        unfold mayF at hmf
        rw [if_neg] at hst
        · obtain ⟨e1, e2⟩ := hno hst rfl
          rw [e1, e2]
          have hgx : (∃ z, (c.map ai).getD x1.toNat .any = ai z) ∨ (c.map ai).getD x1.toNat .any = .any := by
            by_cases h : x1.toNat < c.length
            · exact .inl ⟨_, getD_map h⟩
            · exact .inr (by rw [List.getD_eq_getElem?_getD, List.getElem?_eq_none (by rw [List.length_map]; omega)]; rfl)
          rcases hgx with ⟨z, g1⟩ | g1
          · simp only [go_sem]
            repeat (first | ((with_reducible refine AWp.ofC ?_ ?_); (focus exact rfl); simp only [go_sem, hgk]) | ((with_reducible refine an ?_ ?_); focus exact Au))
            intro b10 g10
            repeat (first | ((with_reducible refine AWp.ofC ?_ ?_); (focus exact rfl); simp only [go_sem, hrf]) | ((with_reducible refine an ?_ ?_); focus exact Au))
            refine AWp.seq (AWp.seq ?_)
            repeat (first | (with_reducible refine AWp.seq ?_) | (with_reducible refine AWp.block ?_))
            refine AWp.read mixed [0, 1, 2, 3, 4, 5, 6, 7, 8, 9, 10, 11, 12, 13, 14, 15, 16] (by kernel_rfl) ?_; simp only [go_sem, hrf]
            repeat ((with_reducible refine an ?_ ?_); focus exact As)
            repeat ((with_reducible refine an ?_ ?_); focus exact As)
            refine GCall.use (ab false) (fun _ => ⟨At, (hmp).val.use ⟨rfl, rfl⟩⟩) ?_; simp only [go_sem, g1]
            repeat (first | ((with_reducible refine AWp.ofC ?_ ?_); (focus exact rfl); simp only [go_sem]) | ((with_reducible refine an ?_ ?_); focus exact Au))
            refine ret_view [] ?_; simp only [go_sem]
            exact .mkTup (Vws.cons (.nil 1) (Vws.refl _))
          · simp only [go_sem]
            repeat (first | ((with_reducible refine AWp.ofC ?_ ?_); (focus exact rfl); simp only [go_sem, hgk]) | ((with_reducible refine an ?_ ?_); focus exact Au))
            intro b10 g10
            repeat (first | ((with_reducible refine AWp.ofC ?_ ?_); (focus exact rfl); simp only [go_sem, hrf]) | ((with_reducible refine an ?_ ?_); focus exact Au))
            refine AWp.seq (AWp.seq ?_)
            repeat (first | (with_reducible refine AWp.seq ?_) | (with_reducible refine AWp.block ?_))
            refine AWp.read mixed [0, 1, 2, 3, 4, 5, 6, 7, 8, 9, 10, 11, 12, 13, 14, 15, 16] (by kernel_rfl) ?_; simp only [go_sem, hrf]
            repeat ((with_reducible refine an ?_ ?_); focus exact As)
            repeat ((with_reducible refine an ?_ ?_); focus exact As)
            refine GCall.use (ab false) (fun _ => ⟨At, (hmp).val.use ⟨rfl, rfl⟩⟩) ?_; simp only [go_sem, g1]
            repeat (first | ((with_reducible refine AWp.ofC ?_ ?_); (focus exact rfl); simp only [go_sem]) | ((with_reducible refine an ?_ ?_); focus exact Au))
            refine ret_view [] ?_; simp only [go_sem]
            exact .mkTup (Vws.cons (.nil 1) (Vws.refl _))
        · rintro ⟨⟨h1, h2⟩, h3, _⟩
          rw [decide_eq_true ⟨h1, by simpa using h2⟩, Bool.true_and] at hmf
          rw [hmf] at h3; cases h3
    · rintro vs L - ⟨c, O, v, rfl, hc, hOl, hOg, hst, hA⟩
      have e0 : ofR ps c (l.drop l.length) = some [] := by rw [List.drop_length]; rfl
      rw [e0] at hst
      have hcl := (isF_iff.1 hc).1
      have heq := ints_equal c (fullC ps) (by omega)
      obtain ⟨R, hR, hRO⟩ : ∃ R, ofR ps (zeroC ps) l = some R ∧ zeroC ps :: R = O := by
        cases hx : ofR ps (zeroC ps) l with
        | none => rw [hx] at hst; cases hst
        | some R => rw [hx] at hst; exact ⟨R, rfl, by simpa using Option.some.inj hst⟩
      have hoF : ofF ps l = if c = fullC ps then some O else none := by
        unfold ofF
        rw [hR]
        simp only
        rw [hRO, hOg]
        congr 1
        exact propext ⟨fun h => Option.some.inj h, fun h => congrArg some h⟩
      have hOm : (O.map aInts).length = l.length + 1 := by rw [List.length_map, hOl]
      obtain ⟨bo, cap, rfl, rfl⟩ : ∃ bo cap, v = .ls bo 1 0 (O.map aInts).length cap ∧ L = [(bo, .row 42 1 (O.map aInts) cap)] := by
        rcases hA.inv with ⟨e1, _, _⟩ | h
        · rw [e1] at hOm; simp at hOm
        · exact h
      simp only [go_sem]
      by_cases hcf : c = fullC ps
      · rw [if_pos hcf] at hoF
        rw [decide_eq_true hcf] at heq
        obtain ⟨e1, e2⟩ := hE _ hoF
        rw [e1, e2]
        repeat (first | ((with_reducible refine AWp.ofC ?_ ?_); (focus exact rfl); simp only [go_sem, hrf]) | ((with_reducible refine an ?_ ?_); focus exact Au))
        repeat ((with_reducible refine an ?_ ?_); focus exact As)
        refine (hfu).val.use ?_; simp only [go_sem]
        repeat (first | ((with_reducible refine AWp.ofC ?_ ?_); (focus exact rfl); simp only [go_sem, hrf]) | ((with_reducible refine an ?_ ?_); focus exact Au))
        repeat ((with_reducible refine an ?_ ?_); focus exact As)
        refine (heq).val.use ?_; simp only [go_sem]
        repeat (first | ((with_reducible refine AWp.ofC ?_ ?_); (focus exact rfl); simp only [go_sem]) | ((with_reducible refine an ?_ ?_); focus exact Au))
        refine ret_view [true] ?_; simp only [go_sem]
        exact .mkTup (Vws.cons (Vw.ofLs (if_pos rfl) (by rw [List.length_map]; rfl)) (Vws.refl _))
      · rw [if_neg hcf] at hoF
        rw [decide_eq_false hcf] at heq
        obtain ⟨e1, e2⟩ := hE _ hoF
        rw [e1, e2]
        repeat (first | ((with_reducible refine AWp.ofC ?_ ?_); (focus exact rfl); simp only [go_sem, hrf]) | ((with_reducible refine an ?_ ?_); focus exact Au))
        repeat ((with_reducible refine an ?_ ?_); focus exact As)
        refine (hfu).val.use ?_; simp only [go_sem]
        repeat (first | ((with_reducible refine AWp.ofC ?_ ?_); (focus exact rfl); simp only [go_sem, hrf]) | ((with_reducible refine an ?_ ?_); focus exact Au))
        repeat ((with_reducible refine an ?_ ?_); focus exact As)
        refine (heq).val.use ?_; simp only [go_sem]
        repeat (first | ((with_reducible refine AWp.ofC ?_ ?_); (focus exact rfl); simp only [go_sem]) | ((with_reducible refine an ?_ ?_); focus exact Au))
        refine ret_view [] ?_; simp only [go_sem]
        exact .mkTup (Vws.cons (.nil 1) (Vws.refl _))
end Go.AL
end
section
/- Maps whose keys are texts. No condition. -/
namespace Go.AL
open Go Go.RowKit
theorem fits_str (s : ByteArray) : (KK.sc .str).fits (.string s) = true := rfl
attribute [go_sem] fits_str
/-- What a map with texts as keys gives, by its lookups. -/
structure MpS (ks : List Value) (vs : List AV) (z : AV) (f : ByteArray → AV) : Prop where
  fits : ks.all (KK.sc .str).fits = true
  len : vs.length = ks.length
  get : ∀ s, mget (.string s) ks vs z = f s
theorem MpS.nil (z : AV) : MpS [] [] z fun _ => z := ⟨rfl, rfl, fun _ => rfl⟩
theorem mfind_lt {k : Value} : ∀ {ks : List Value} {i : Nat}, mfind k ks = some i → i < ks.length
  | [], _, h => by cases h
  | k' :: r, i, h => by
    unfold mfind at h
    split at h
    · cases h; simp
    · split at h
      · rename_i j hj; cases h; have := mfind_lt hj; simp; omega
      · cases h
theorem seqB_dec' (a b : ByteArray) : seqB a b = decide (a = b) := seqB_dec a b
theorem keyB_str {s : ByteArray} {k : Value} (hk : (KK.sc .str).fits k = true) : keyB (.string s) k = true ↔ k = .string s := by
  have := vfits_inv (k := .str) (a := k) hk
  cases this with
  | str t =>
    show seqB s t = true ↔ _
    rw [seqB_dec', decide_eq_true_eq]
    exact ⟨fun h => by rw [h], fun h => by cases h; rfl⟩
theorem mfind_str {s : ByteArray} : ∀ {ks : List Value} (_ : ks.all (KK.sc .str).fits = true) {i : Nat}, mfind (.string s) ks = some i → ks[i]? = some (.string s)
  | [], _, _, h => by cases h
  | k' :: r, hf, i, h => by
    rw [List.all_cons, Bool.and_eq_true] at hf
    unfold mfind at h
    split at h
    · rename_i hk; cases h; rw [(keyB_str hf.1).1 hk]; rfl
    · split at h
      · rename_i j hj; cases h; exact mfind_str hf.2 hj
      · cases h
theorem mfind_app {s t : ByteArray} : ∀ {ks : List Value}, mfind (.string t) (ks ++ [.string s]) = match mfind (.string t) ks with
    | some i => some i
    | none => if t = s then some ks.length else none
  | [] => by
    show (if keyB (.string t) (.string s) = true then some 0 else none) = if t = s then some 0 else none
    show (if seqB t s = true then some 0 else none) = _
    rw [seqB_dec']
    by_cases h : t = s
    · rw [if_pos h, if_pos (decide_eq_true h)]
    · rw [if_neg h, if_neg (by rw [decide_eq_false h]; simp)]
  | k' :: r => by
    have ih := mfind_app (s := s) (t := t) (ks := r)
    rw [List.cons_append]
    unfold mfind
    by_cases h : keyB (.string t) k' = true
    · rw [if_pos h, if_pos h]
    · rw [if_neg h, if_neg h, ih]
      cases hm : mfind (.string t) r with
      | some i => rfl
      | none =>
        simp only
        by_cases e : t = s
        · rw [if_pos e, if_pos e]; simp
        · rw [if_neg e, if_neg e]
theorem MpS.put {ks : List Value} {vs : List AV} {z : AV} {f : ByteArray → AV} (h : MpS ks vs z f) (s : ByteArray) (x : AV) :
    ∃ ks' vs', mput (.string s) x ks vs = .amap ks' vs' ∧ MpS ks' vs' z fun t => if t = s then x else f t := by
  unfold mput
  cases hm : mfind (.string s) ks with
  | some i =>
    refine ⟨ks, vs.set i x, rfl, h.fits, by rw [List.length_set]; exact h.len, fun t => ?_⟩
    have hi := mfind_lt hm
    have hl := h.len
    unfold mget
    by_cases e : t = s
    · subst e
      rw [hm, if_pos rfl]
      simp only
      rw [List.getD_eq_getElem?_getD, List.getElem?_set, if_pos rfl, if_pos (by omega)]; rfl
    · rw [if_neg e, ← h.get t]
      unfold mget
      cases ht : mfind (.string t) ks with
      | none => rfl
      | some j =>
        simp only
        have h1 := mfind_str h.fits hm
        have h2 := mfind_str h.fits ht
        have hne : i ≠ j := fun e2 => by
          subst e2
          rw [h1] at h2
          exact e (by have := Option.some.inj h2; injection this with h3; exact h3.symm)
        rw [List.getD_eq_getElem?_getD, List.getElem?_set_ne hne, ← List.getD_eq_getElem?_getD]
  | none =>
    refine ⟨ks ++ [.string s], vs ++ [x], rfl, by rw [List.all_append, h.fits]; rfl, by rw [List.length_append, List.length_append, h.len]; rfl, fun t => ?_⟩
    unfold mget
    rw [mfind_app]
    by_cases e : t = s
    · subst e
      rw [hm, if_pos rfl]
      simp only
      rw [if_pos trivial, List.getD_eq_getElem?_getD, List.getElem?_append_right (by rw [h.len]; exact Nat.le_refl _), h.len, Nat.sub_self]; rfl
    · rw [if_neg e, ← h.get t]
      unfold mget
      cases ht : mfind (.string t) ks with
      | none => simp only; rw [if_neg e]
      | some j =>
        have hj := mfind_lt ht
        simp only
        rw [if_neg e, List.getD_eq_getElem?_getD, List.getElem?_append_left (by rw [h.len]; exact hj), ← List.getD_eq_getElem?_getD]
end Go.AL
end
section
/- The package run: how many runs. No condition. -/
namespace Go.AL
open Go Go.RowKit
set_option maxRecDepth 4000
def satV (n : Nat) : Int := if n ≤ 1125899906842625 then n else 1125899906842625
theorem satV_add (a b : Nat) : (if (1125899906842625 : Int) < satV a + satV b then (1125899906842625 : Int) else satV a + satV b) = satV (a + b) := by
  unfold satV
  split <;> split <;> split <;> split <;> omega
theorem satV_le (a : Nat) : 0 ≤ satV a ∧ satV a ≤ 1125899906842625 := by unfold satV; split <;> omega
/-- The sum over the processes below k. -/
def enS (ps : List Pr) (c : List Int) (k : Nat) : Nat := ((enF ps c k).map fun p => wayV ps (stpC c p)).sum
theorem enS_succ (ps : List Pr) (c : List Int) (k : Nat) : enS ps c (k + 1) = enS ps c k + if rdyF ps c k = true then wayV ps (stpC c k) else 0 := by
  unfold enS
  rw [enF_succ, List.map_append, List.sum_append]
  split <;> simp
noncomputable def cnE (ps : List Pr) : Int := if lstE ps ≠ 0 then lstE ps else if 1125899906842624 < wayV ps (zeroC ps) then 9 else 0
noncomputable def cnN (ps : List Pr) : Int := if cnE ps = 0 then (wayV ps (zeroC ps) : Int) else 0
set_option maxHeartbeats 1000000 in
theorem run_Count (ps : List Pr) (hs : Sm ps) : PC Go.Proofs.Tryz.prog 11 [aTr ps] (.tup [ai (cnN ps), ai (cnE ps)]) := by
  have hva := trace_Valid ps hs
  have hLi := cuts_List ps hs
  have haR : ∀ x : List (List Int), aRows x = .sl 1 (x.map aInts) := fun _ => rfl
  unfold aLst at hLi
  have hcE : cnE ps = if lstE ps ≠ 0 then lstE ps else if 1125899906842624 < wayV ps (zeroC ps) then 9 else 0 := rfl
  have hcN : cnN ps = if cnE ps = 0 then (wayV ps (zeroC ps) : Int) else 0 := rfl
  cases hv : validF ps with
  | false =>
    have e1 : lstE ps = 1 := by unfold lstE; rw [hv]; rfl
    rw [e1, if_pos (by decide)] at hcE
    rw [hcE, if_neg (by decide)] at hcN
    rw [hcE, hcN]
    rw [hv] at hva
    refine PC.enter 80 [.tmp 2, .tmp 3] [1] Go.Proofs.Tryz.func11 rfl rfl rfl rfl rfl (by simp) (AWp.of ?_); simp only [go_sem]
    repeat (first | ((with_reducible refine AWp.ofC ?_ ?_); (focus exact rfl); simp only [go_sem]) | ((with_reducible refine an ?_ ?_); focus exact Au))
    repeat ((with_reducible refine an ?_ ?_); focus exact As)
    refine (hva).val.use ?_; simp only [go_sem]
    repeat (first | ((with_reducible refine AWp.ofC ?_ ?_); (focus exact rfl); simp only [go_sem]) | ((with_reducible refine an ?_ ?_); focus exact Au))
    refine ret_eq ?_; simp only [go_sem]
  | true =>
    rw [hv] at hva
    by_cases hE0 : lstE ps = 0
    · have h5 := (lst_zero.1 hE0).2
      have hlF : lstF ps = cutsF ps := by unfold lstF; rw [if_pos hE0]
      rw [hlF, hE0] at hLi
      rw [if_neg (by simpa using hE0)] at hcE
      have hop := run_open ps hs hv
      have hz := run_zero ps hv
      have hfu := run_full ps hs hv
      have hmay := run_may ps hs hv
      have hl8 := (valid_len hv).2
      have hm : ∀ c, c ∈ cutsF ps ↔ isF ps c = true := fun c => mem_cutsF hv
      have hl0 := lst_len0 hv (l := cutsF ps) rfl
      have hlast := lst_last hv (l := cutsF ps) rfl
      have hstep := fun (i : Nat) (hi : i < (cutsF ps).length) p hp => idx_step hv (l := cutsF ps) rfl hi (p := p) hp
      have hwf : wayV ps (fullC ps) = 1 := wayV_full (fullC_sum ps)
      have hkf := run_key (fullC ps) (isF_cb hs (fullC_is hv)).1
      have hkz := run_key (zeroC ps) (isF_cb hs (zeroC_is ps)).1
      have hord := cuts_ord hv
      generalize cnE ps = ce at *
      generalize cnN ps = cn at *
      have hfst := lst_first hv (l := cutsF ps) rfl
      generalize cutsF ps = l at *
      obtain ⟨r, hr⟩ : ∃ r, r = aRs ps := ⟨_, rfl⟩
      have hrf : fo r = (True, r) := by rw [hr]; rfl
      rw [← hr] at hop hz hfu hmay
      clear hr
      refine PC.enter 80 [.tmp 2, .tmp 3] [1] Go.Proofs.Tryz.func11 rfl rfl rfl rfl rfl (by simp) (AWp.of ?_); simp only [go_sem]
      repeat (first | ((with_reducible refine AWp.ofC ?_ ?_); (focus exact rfl); simp only [go_sem]) | ((with_reducible refine an ?_ ?_); focus exact Au))
      repeat ((with_reducible refine an ?_ ?_); focus exact As)
      refine (hva).val.use ?_; simp only [go_sem]
      repeat (first | ((with_reducible refine AWp.ofC ?_ ?_); (focus exact rfl); simp only [go_sem]) | ((with_reducible refine an ?_ ?_); focus exact Au))
      repeat ((with_reducible refine an ?_ ?_); focus exact As)
      refine (hLi).val.use ?_; simp only [go_sem]
      repeat (first | ((with_reducible refine AWp.ofC ?_ ?_); (focus exact rfl); simp only [go_sem]) | ((with_reducible refine an ?_ ?_); focus exact Au))
      repeat ((with_reducible refine an ?_ ?_); focus exact As)
      refine (hop).val.use ?_; simp only [go_sem, hrf]
      repeat (first | ((with_reducible refine AWp.ofC ?_ ?_); (focus exact rfl); simp only [go_sem, hrf]) | ((with_reducible refine an ?_ ?_); focus exact Au))
      intro b25
      obtain ⟨ks, vs, hput, hMp⟩ := (MpS.nil (.v (.int .i64 0))).put (keyS (fullC ps)) (.v (.int .i64 1))
      repeat ((with_reducible refine an ?_ ?_); focus exact As)
      repeat ((with_reducible refine an ?_ ?_); focus exact As)
      refine (hfu).val.use ?_; simp only [go_sem]
      repeat ((with_reducible refine an ?_ ?_); focus exact As)
      refine (hkf).val.use ?_; simp only [go_sem, hput]
      repeat ((with_reducible refine an ?_ ?_); focus exact As)
      repeat (first | ((with_reducible refine AWp.ofC ?_ ?_); (focus exact rfl); simp only [go_sem]) | ((with_reducible refine an ?_ ?_); focus exact Au))
      have hix : ((l.length : Nat) : Int) - 2 = ((l.length - 1 : Nat) : Int) - 1 := by omega
      rw [hix]
      refine AWp.block (AWp.loopN [8] [4, 6, 7] (fun m us L => us = [ai ((m : Int) - 1)] ∧ m < l.length ∧ ∃ ks vs f, L = [(b25, .amap ks vs)] ∧ MpS ks vs (.v (.int .i64 0)) f ∧ ∀ j (hj : j < l.length), m ≤ j → f (keyS l[j]) = ai (satV (wayV ps l[j]))) (l.length - 1) ?_ ?_)
      · refine ⟨rfl, by omega, ks, vs, _, rfl, hMp, fun j hj hmj => ?_⟩
        have : j = l.length - 1 := by omega
        subst this
        rw [List.getD_eq_getElem?_getD, List.getElem?_eq_getElem hj] at hlast
        have hlast : l[l.length - 1] = fullC ps := hlast
        simp only [hlast, hwf]
        rw [if_pos trivial]
        rfl
      · rintro m us L - ⟨rfl, hml, ks, vs, f, rfl, hMp, hf⟩
        cases m with
        | zero =>
          have z : ¬ (0 : Int) ≤ ((0 : Nat) : Int) - 1 := by omega
          have h0 := hf 0 hl0 (Nat.le_refl _)
          rw [List.getD_eq_getElem?_getD, List.getElem?_eq_getElem hl0] at hfst
          have hfst : l[0] = zeroC ps := hfst
          rw [hfst] at h0
          have hg := hMp.get (keyS (zeroC ps))
          rw [h0] at hg
          by_cases hbg : 1125899906842624 < wayV ps (zeroC ps)
          · have h1 : (1125899906842624 : Int) < satV (wayV ps (zeroC ps)) := by unfold satV; split <;> omega
            rw [if_pos hbg] at hcE
            subst hcE
            rw [if_neg (by decide)] at hcN
            subst hcN
            simp only [go_sem]
            repeat (first | ((with_reducible refine AWp.ofC ?_ ?_); (focus exact rfl); simp only [go_sem, z, hrf]) | ((with_reducible refine an ?_ ?_); focus exact Au))
            repeat ((with_reducible refine an ?_ ?_); focus exact As)
            refine (hz).val.use ?_; simp only [go_sem]
            repeat ((with_reducible refine an ?_ ?_); focus exact As)
            refine (hkz).val.use ?_; simp only [go_sem, hg, hMp.fits]
            repeat ((with_reducible refine an ?_ ?_); focus exact As)
            repeat (first | ((with_reducible refine AWp.ofC ?_ ?_); (focus exact rfl); simp only [go_sem, h1]) | ((with_reducible refine an ?_ ?_); focus exact Au))
            refine ret_eq ?_; simp only [go_sem]
          · have h1 : ¬ (1125899906842624 : Int) < satV (wayV ps (zeroC ps)) := by unfold satV; split <;> omega
            have h2 : satV (wayV ps (zeroC ps)) = (wayV ps (zeroC ps) : Int) := by unfold satV; rw [if_pos (by omega)]
            rw [if_neg hbg] at hcE
            subst hcE
            rw [if_pos rfl] at hcN
            subst hcN
            simp only [go_sem]
            repeat (first | ((with_reducible refine AWp.ofC ?_ ?_); (focus exact rfl); simp only [go_sem, z, hrf]) | ((with_reducible refine an ?_ ?_); focus exact Au))
            repeat ((with_reducible refine an ?_ ?_); focus exact As)
            refine (hz).val.use ?_; simp only [go_sem]
            repeat ((with_reducible refine an ?_ ?_); focus exact As)
            refine (hkz).val.use ?_; simp only [go_sem, hg, hMp.fits]
            repeat ((with_reducible refine an ?_ ?_); focus exact As)
            repeat (first | ((with_reducible refine AWp.ofC ?_ ?_); (focus exact rfl); simp only [go_sem, h1]) | ((with_reducible refine an ?_ ?_); focus exact Au))
            refine ret_eq ?_; simp only [go_sem]
            rw [h2]
        | succ m =>
          have z : (0 : Int) ≤ (m : Int) := by omega
          have hm1 : ((m + 1 : Nat) : Int) - 1 = (m : Int) := by omega
          have hml2 : m < l.length := by omega
          have hcF : isF ps l[m] = true := (hm _).1 (List.getElem_mem hml2)
          have hcl := (isF_iff.1 hcF).1
          have hcb := isF_cb hs hcF
          have hgm := getD_map (f := aInts) hml2
          have hkm := run_key l[m] hcb.1
          have hcsum : l[m].sum < off ps ps.length := by
            have h1 := leq_sum (leq_full hcF)
            rw [fullC_sum] at h1
            have h2 : ¬ l[m].sum = off ps ps.length := fun e => by
              have h3 := (full_of_sum hcF).2 e
              rw [List.getD_eq_getElem?_getD, List.getElem?_eq_getElem (show l.length - 1 < l.length by omega)] at hlast
              have hlast : l[l.length - 1] = fullC ps := hlast
              have h4 := List.pairwise_iff_getElem.1 hord m (l.length - 1) hml2 (by omega) (by omega)
              rw [h3, hlast] at h4
              exact ordL_irr h4
            omega
          have hws := wayV_stp hcF hcsum
          have hstm := hstep m hml2
          have hbyt := isF_byte hv hcF
          have hmayc := fun p => hmay l[m] hcF p
          obtain ⟨c, hc⟩ : ∃ c, c = l[m] := ⟨_, rfl⟩
          rw [← hc] at hcF hcl hcb hgm hkm hcsum hws hstm hbyt hmayc
          rw [hm1]
          simp only [go_sem]
          repeat (first | ((with_reducible refine AWp.ofC ?_ ?_); (focus exact rfl); simp only [go_sem, z, hgm]) | ((with_reducible refine an ?_ ?_); focus exact Au))
          refine AWp.range' c.length [9] [4, 6, 7, 8, 41] (fun k us L => us = [ai (satV (enS ps c k))] ∧ L = [(b25, .amap ks vs)]) (by omega) rfl rfl rfl ⟨rfl, rfl⟩ ?_ ?_
          · rintro k us L hk - ⟨rfl, rfl⟩
            have hmp := hmayc k
            rw [mayF_nat hcl hk] at hmp
            have hne := run_next c hcb.1 hcb.2 k hk
            have hsu := enS_succ ps c k
            simp only [go_sem]
            repeat (first | ((with_reducible refine AWp.ofC ?_ ?_); (focus exact rfl); simp only [go_sem, hgm, hrf]) | ((with_reducible refine an ?_ ?_); focus exact Au))
            repeat ((with_reducible refine an ?_ ?_); focus exact As)
            refine (hmp).val.use ?_; simp only [go_sem]
            cases hr : rdyF ps c k with
            | true =>
              rw [hr, if_pos rfl] at hsu
              have hE : k ∈ enF ps c c.length := mem_enF.2 ⟨hk, hr⟩
              obtain ⟨s1, s2, s3⟩ := hstm k hE
              have hky := run_key (stpC c k) (by rw [stp_len]; exact hcb.1)
              have hg := hMp.get (keyS (stpC c k))
              have hfk := hf _ s2 (by omega)
              rw [s3] at hfk
              rw [hfk] at hg
              have hadd := satV_add (enS ps c k) (wayV ps (stpC c k))
              rw [← hsu] at hadd
              have b1 := satV_le (enS ps c k)
              have b2 := satV_le (wayV ps (stpC c k))
              generalize satV (enS ps c k) = x1 at *
              generalize satV (wayV ps (stpC c k)) = x2 at *
              generalize satV (enS ps c (k + 1)) = x3 at *
              repeat (first | ((with_reducible refine AWp.ofC ?_ ?_); (focus exact rfl); simp only [go_sem, hgm]) | ((with_reducible refine an ?_ ?_); focus exact Au))
              repeat ((with_reducible refine an ?_ ?_); focus exact As)
              refine (hne).val.use ?_; simp only [go_sem]
              repeat ((with_reducible refine an ?_ ?_); focus exact As)
              refine (hky).val.use ?_; simp only [go_sem, hg, hMp.fits]
              repeat ((with_reducible refine an ?_ ?_); focus exact As)
              repeat (first | ((with_reducible refine AWp.ofC ?_ ?_); (focus exact rfl); simp only [go_sem, hgm, hrf, hg]) | ((with_reducible refine an ?_ ?_); focus exact Au))
              exact ⟨_, List.Sublist.refl _, by rw [hadd], rfl⟩
            | false =>
              rw [hr, if_neg (by decide), Nat.add_zero] at hsu
              repeat (first | ((with_reducible refine AWp.ofC ?_ ?_); (focus exact rfl); simp only [go_sem, hgm]) | ((with_reducible refine an ?_ ?_); focus exact Au))
              exact ⟨_, List.Sublist.refl _, by rw [hsu]; rfl, rfl⟩
          · rintro us L - ⟨rfl, rfl⟩
            have hsu : enS ps c c.length = wayV ps c := by rw [hws]; rfl
            rw [hsu]
            obtain ⟨ks', vs', hput', hMp'⟩ := hMp.put (keyS c) (ai (satV (wayV ps c)))
            simp only [go_sem]
            repeat (first | ((with_reducible refine AWp.ofC ?_ ?_); (focus exact rfl); simp only [go_sem, hgm]) | ((with_reducible refine an ?_ ?_); focus exact Au))
            repeat ((with_reducible refine an ?_ ?_); focus exact As)
            refine (hkm).val.use ?_; simp only [go_sem, hput', hMp.fits]
            repeat ((with_reducible refine an ?_ ?_); focus exact As)
            repeat (first | ((with_reducible refine AWp.ofC ?_ ?_); (focus exact rfl); simp only [go_sem]) | ((with_reducible refine an ?_ ?_); focus exact Au))
            refine ⟨_, List.Sublist.refl _, m, by omega, by congr 3, by omega, ks', vs', _, rfl, hMp', fun j hj hmj => ?_⟩
            by_cases e : keyS l[j] = keyS c
            · rw [if_pos e]
              have hjF : isF ps l[j] = true := (hm _).1 (List.getElem_mem hj)
              rw [keyS_inj (isF_byte hv hjF) hbyt e]
            · rw [if_neg e]
              have hne : j ≠ m := fun e2 => by subst e2; exact e (by rw [hc])
              exact hf j hj (by omega)
    · have e1 : cnE ps = lstE ps := by rw [hcE, if_pos hE0]
      have e2 : cnN ps = 0 := by rw [hcN, e1, if_neg hE0]
      rw [e1, e2]
      refine PC.enter 80 [.tmp 2, .tmp 3] [1] Go.Proofs.Tryz.func11 rfl rfl rfl rfl rfl (by simp) (AWp.of ?_); simp only [go_sem]
      repeat (first | ((with_reducible refine AWp.ofC ?_ ?_); (focus exact rfl); simp only [go_sem]) | ((with_reducible refine an ?_ ?_); focus exact Au))
      repeat ((with_reducible refine an ?_ ?_); focus exact As)
      refine (hva).val.use ?_; simp only [go_sem]
      repeat (first | ((with_reducible refine AWp.ofC ?_ ?_); (focus exact rfl); simp only [go_sem]) | ((with_reducible refine an ?_ ?_); focus exact Au))
      repeat ((with_reducible refine an ?_ ?_); focus exact As)
      refine (hLi).val.use ?_; simp only [go_sem]
      repeat (first | ((with_reducible refine AWp.ofC ?_ ?_); (focus exact rfl); simp only [go_sem, hE0]) | ((with_reducible refine an ?_ ?_); focus exact Au))
      refine ret_eq ?_; simp only [go_sem]
end Go.AL
end
