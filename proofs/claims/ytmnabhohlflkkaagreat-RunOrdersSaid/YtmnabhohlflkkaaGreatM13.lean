/- Texts of this claim's proof: WQp, WQn, WU7, WU2, WU3, WU4, WU5, WU6, WU8. No condition. -/
import Derived.Test.YtmnabhohlflkkaaGreatM12
import Derived.Test.YtmnabhohlflkkaaGreatM10
import Derived.Test.YtmnabhohlflkkaaGreatM9
import Derived.Test.YtmnabhohlflkkaaGreatM8
section
/- The package run: avoiding cuts. No condition. -/
namespace Go.AL
open Go Go.RowKit
set_option maxRecDepth 4000
theorem ret_viewK {P : Program} {rs : List ResultVar} {K : AV → AHeap → Prop} {ρ : Env} {L : AHeap} (m : List Bool) (r : AV) (hK : K r []) (h : retV P rs m r ρ L) : retK P rs K ρ L := by
  unfold retK; unfold retV at h
  split at h
  · rename_i e; (try rw [e]); exact ⟨h.1, m, r, [], h.2, .none _, hK⟩
  · exact h.elim
def badB (l : List (List Int)) (c : List Int) : Bool := decide (c ∈ l)
noncomputable def avE (ps : List Pr) (l : List (List Int)) : Int := if validF ps = true then (if 5000 < l.length then 5 else if (l.any fun c => !isF ps c) = true then 18 else lstE ps) else 1
theorem run_avoiding1 (ps : List Pr) (hs : Sm ps) (hv : validF ps = true) (c : List Int) : PC Go.Proofs.Tryz.prog 98 [aInts c, .rp 1 [aTr ps] 0 0] (ab (!isF ps c)) := by
  have h1 := cut_Consistent ps hs c
  have hgi := isF_given hv (c := c)
  have hde : decide (givenF ps [c] [] = 0) = isF ps c := by
    cases h : isF ps c with
    | true => exact decide_eq_true (hgi.2 h)
    | false => exact decide_eq_false fun e => by rw [hgi.1 e] at h; cases h
  rw [hde] at h1
  refine PC.enter 8 [.tmp 3] [] Go.Proofs.Tryz.func98 rfl rfl rfl rfl rfl (by simp) (AWp.of ?_); simp only [go_sem]
  repeat (first | ((with_reducible refine AWp.ofC ?_ ?_); (focus exact rfl); simp only [go_sem]) | ((with_reducible refine an ?_ ?_); focus exact Au))
  repeat ((with_reducible refine an ?_ ?_); focus exact As)
  refine (h1).val.use ?_; simp only [go_sem]
  repeat (first | ((with_reducible refine AWp.ofC ?_ ?_); (focus exact rfl); simp only [go_sem]) | ((with_reducible refine an ?_ ?_); focus exact Au))
  refine ret_eq ?_; simp only [go_sem]
theorem run_avoidBad (ps : List Pr) (hs : Sm ps) (l : List (List Int)) (h : avE ps l ≠ 0) : PC Go.Proofs.Tryz.prog 60 [aTr ps, aRows l] (.tup [.v (.map none), ai (avE ps l)]) := by
  have hva := trace_Valid ps hs
  have hLi := cuts_List ps hs
  have haR : ∀ x : List (List Int), aRows x = .sl 1 (x.map aInts) := fun _ => rfl
  unfold aLst at hLi
  have hE : avE ps l = if validF ps = true then (if 5000 < l.length then 5 else if (l.any fun c => !isF ps c) = true then 18 else lstE ps) else 1 := rfl
  generalize avE ps l = e at *
  cases hv : validF ps with
  | false =>
    rw [hv] at hva hE
    rw [if_neg (by decide)] at hE
    subst hE
    refine PC.enter 100 [.tmp 4, .tmp 5] [2] Go.Proofs.Tryz.func60 rfl rfl rfl rfl rfl (by simp) (AWp.of ?_); simp only [go_sem]
    repeat (first | ((with_reducible refine AWp.ofC ?_ ?_); (focus exact rfl); simp only [go_sem]) | ((with_reducible refine an ?_ ?_); focus exact Au))
    repeat ((with_reducible refine an ?_ ?_); focus exact As)
    refine (hva).val.use ?_; simp only [go_sem]
    repeat (first | ((with_reducible refine AWp.ofC ?_ ?_); (focus exact rfl); simp only [go_sem]) | ((with_reducible refine an ?_ ?_); focus exact Au))
    refine ret_eq ?_; simp only [go_sem]
  | true =>
    rw [hv] at hva hE
    rw [if_pos rfl] at hE
    by_cases h5 : 5000 < l.length
    · have h5i : (5000 : Int) < (l.length : Int) := by omega
      rw [if_pos h5] at hE
      subst hE
      rw [haR]
      refine PC.enter 100 [.tmp 4, .tmp 5] [2] Go.Proofs.Tryz.func60 rfl rfl rfl rfl rfl (by simp) (AWp.of ?_); simp only [go_sem]
      repeat (first | ((with_reducible refine AWp.ofC ?_ ?_); (focus exact rfl); simp only [go_sem]) | ((with_reducible refine an ?_ ?_); focus exact Au))
      repeat ((with_reducible refine an ?_ ?_); focus exact As)
      refine (hva).val.use ?_; simp only [go_sem]
      repeat (first | ((with_reducible refine AWp.ofC ?_ ?_); (focus exact rfl); simp only [go_sem, h5i]) | ((with_reducible refine an ?_ ?_); focus exact Au))
      refine ret_eq ?_; simp only [go_sem]
    · have h5i : ¬ (5000 : Int) < (l.length : Int) := by omega
      rw [if_neg h5] at hE
      have hcf := rows_containsFunc l (by omega) (.clo 98 [.rp 1 [aTr ps] 0 0]) rfl (fun c => !isF ps c) fun c _ => (run_avoiding1 ps hs hv c).clo
      cases hb : (l.any fun c => !isF ps c) with
      | true =>
        rw [hb] at hcf hE
        rw [if_pos rfl] at hE
        subst hE
        rw [haR] at *
        refine PC.enter 100 [.tmp 4, .tmp 5] [2] Go.Proofs.Tryz.func60 rfl rfl rfl rfl rfl (by simp) (AWp.of ?_); simp only [go_sem]
        repeat (first | ((with_reducible refine AWp.ofC ?_ ?_); (focus exact rfl); simp only [go_sem]) | ((with_reducible refine an ?_ ?_); focus exact Au))
        repeat ((with_reducible refine an ?_ ?_); focus exact As)
        refine (hva).val.use ?_; simp only [go_sem]
        repeat (first | ((with_reducible refine AWp.ofC ?_ ?_); (focus exact rfl); simp only [go_sem, h5i]) | ((with_reducible refine an ?_ ?_); focus exact Au))
        repeat ((with_reducible refine an ?_ ?_); focus exact As)
        refine (hcf).val.use ?_; simp only [go_sem]
        repeat (first | ((with_reducible refine AWp.ofC ?_ ?_); (focus exact rfl); simp only [go_sem]) | ((with_reducible refine an ?_ ?_); focus exact Au))
        refine ret_eq ?_; simp only [go_sem]
      | false =>
        rw [hb] at hcf hE
        rw [if_neg (by decide)] at hE
        subst hE
        rw [haR] at *
        generalize lstE ps = e at *
        refine PC.enter 100 [.tmp 4, .tmp 5] [2] Go.Proofs.Tryz.func60 rfl rfl rfl rfl rfl (by simp) (AWp.of ?_); simp only [go_sem]
        repeat (first | ((with_reducible refine AWp.ofC ?_ ?_); (focus exact rfl); simp only [go_sem]) | ((with_reducible refine an ?_ ?_); focus exact Au))
        repeat ((with_reducible refine an ?_ ?_); focus exact As)
        refine (hva).val.use ?_; simp only [go_sem]
        repeat (first | ((with_reducible refine AWp.ofC ?_ ?_); (focus exact rfl); simp only [go_sem, h5i]) | ((with_reducible refine an ?_ ?_); focus exact Au))
        repeat ((with_reducible refine an ?_ ?_); focus exact As)
        refine (hcf).val.use ?_; simp only [go_sem]
        repeat (first | ((with_reducible refine AWp.ofC ?_ ?_); (focus exact rfl); simp only [go_sem]) | ((with_reducible refine an ?_ ?_); focus exact Au))
        repeat ((with_reducible refine an ?_ ?_); focus exact As)
        refine (hLi).val.use ?_; simp only [go_sem]
        repeat (first | ((with_reducible refine AWp.ofC ?_ ?_); (focus exact rfl); simp only [go_sem, h]) | ((with_reducible refine an ?_ ?_); focus exact Au))
        refine ret_eq ?_; simp only [go_sem]
def AvdK (ps : List Pr) (l : List (List Int)) (r : AV) (L : AHeap) : Prop := L = [] ∧ ∃ ks vs, ∃ g : ByteArray → Bool, r = .tup [.rm ks vs, ai 0] ∧ MpS ks vs (ab false) (fun s => ab (g s)) ∧ ∀ c, isF ps c = true → g (keyS c) = opnV ps (badB l) c
theorem MpS.putB {ks : List Value} {vs : List AV} {z : AV} {g : ByteArray → Bool} (h : MpS ks vs z fun s => ab (g s)) (s : ByteArray) (x : Bool) :
    ∃ ks' vs', mput (.string s) (ab x) ks vs = .amap ks' vs' ∧ MpS ks' vs' z fun t => ab (if t = s then x else g t) := by
  obtain ⟨ks', vs', h1, h2⟩ := h.put s (ab x)
  refine ⟨ks', vs', h1, ?_⟩
  have : (fun t => if t = s then ab x else ab (g t)) = fun t => ab (if t = s then x else g t) := funext fun t => by split <;> rfl
  rw [← this]; exact h2
set_option maxHeartbeats 2000000 in
theorem run_avoidingG (ps : List Pr) (hs : Sm ps) (l : List (List Int)) (h : avE ps l = 0) : MCalls Go.Proofs.Tryz.prog 60 [aTr ps, aRows l] [] (AvdK ps l) := by
  have hva := trace_Valid ps hs
  have hLi := cuts_List ps hs
  have haR : ∀ x : List (List Int), aRows x = .sl 1 (x.map aInts) := fun _ => rfl
  unfold aLst at hLi
  have hE : avE ps l = if validF ps = true then (if 5000 < l.length then 5 else if (l.any fun c => !isF ps c) = true then 18 else lstE ps) else 1 := rfl
  rw [h] at hE
  cases hv : validF ps with
  | false => rw [hv, if_neg (by decide)] at hE; cases hE
  | true =>
    rw [hv] at hva hE
    rw [if_pos rfl] at hE
    by_cases h5 : 5000 < l.length
    · rw [if_pos h5] at hE; cases hE
    · have h5i : ¬ (5000 : Int) < (l.length : Int) := by omega
      rw [if_neg h5] at hE
      have hcf := rows_containsFunc l (by omega) (.clo 98 [.rp 1 [aTr ps] 0 0]) rfl (fun c => !isF ps c) fun c _ => (run_avoiding1 ps hs hv c).clo
      cases hb : (l.any fun c => !isF ps c) with
      | true => rw [hb, if_pos rfl] at hE; cases hE
      | false =>
        rw [hb] at hcf hE
        rw [if_neg (by decide)] at hE
        have hlF : ∀ c ∈ l, isF ps c = true := fun c hc => by
          have := List.any_eq_false.1 hb c hc
          simpa using this
        have hE0 : lstE ps = 0 := hE.symm
        have hm5 := (lst_zero.1 hE0).2
        have hlFF : lstF ps = cutsF ps := by unfold lstF; rw [if_pos hE0]
        rw [hlFF, hE0] at hLi
        have hop := run_open ps hs hv
        have hmay := run_may ps hs hv
        have hl8 := (valid_len hv).2
        have hm : ∀ c, c ∈ cutsF ps ↔ isF ps c = true := fun c => mem_cutsF hv
        have hl0 := lst_len0 hv (l := cutsF ps) rfl
        have hlast := lst_last hv (l := cutsF ps) rfl
        have hstep := fun (i : Nat) (hi : i < (cutsF ps).length) p hp => idx_step hv (l := cutsF ps) rfl hi (p := p) hp
        have hord := cuts_ord hv
        clear hlFF
        generalize cutsF ps = m at *
        obtain ⟨r, hr⟩ : ∃ r, r = aRs ps := ⟨_, rfl⟩
        have hrf : fo r = (True, r) := by rw [hr]; rfl
        rw [← hr] at hop hmay
        clear hr
        rw [haR] at *
        refine MCalls.enter' 100 [.tmp 4, .tmp 5] [2] Go.Proofs.Tryz.func60 rfl rfl rfl rfl rfl (by simp) (AWp.of ?_); simp only [go_sem]
        repeat (first | ((with_reducible refine AWp.ofC ?_ ?_); (focus exact rfl); simp only [go_sem]) | ((with_reducible refine an ?_ ?_); focus exact Au))
        repeat ((with_reducible refine an ?_ ?_); focus exact As)
        refine (hva).val.use ?_; simp only [go_sem]
        repeat (first | ((with_reducible refine AWp.ofC ?_ ?_); (focus exact rfl); simp only [go_sem, h5i]) | ((with_reducible refine an ?_ ?_); focus exact Au))
        repeat ((with_reducible refine an ?_ ?_); focus exact As)
        refine (hcf).val.use ?_; simp only [go_sem]
        repeat (first | ((with_reducible refine AWp.ofC ?_ ?_); (focus exact rfl); simp only [go_sem]) | ((with_reducible refine an ?_ ?_); focus exact Au))
        repeat ((with_reducible refine an ?_ ?_); focus exact As)
        refine (hLi).val.use ?_; simp only [go_sem]
        repeat (first | ((with_reducible refine AWp.ofC ?_ ?_); (focus exact rfl); simp only [go_sem]) | ((with_reducible refine an ?_ ?_); focus exact Au))
        repeat ((with_reducible refine an ?_ ?_); focus exact As)
        refine (hop).val.use ?_; simp only [go_sem, hrf]
        repeat (first | ((with_reducible refine AWp.ofC ?_ ?_); (focus exact rfl); simp only [go_sem]) | ((with_reducible refine an ?_ ?_); focus exact Au))
        intro b39 b40 g40
        have n1 : ¬ b39 = b40 := by omega
        have n2 : ¬ b40 = b39 := by omega
        repeat (first | ((with_reducible refine AWp.ofC ?_ ?_); (focus exact rfl); simp only [go_sem]) | ((with_reducible refine an ?_ ?_); focus exact Au))
        refine AWp.range' l.length [] [6, 8, 9, 10, 41, 42] (fun k us L => us = [] ∧ ∃ kb vb, ∃ gb : ByteArray → Bool, L = [(b40, .amap [] []), (b39, .amap kb vb)] ∧ MpS kb vb (ab false) (fun s => ab (gb s)) ∧ ∀ c, isF ps c = true → gb (keyS c) = decide (c ∈ l.take k)) (by omega) rfl rfl rfl ⟨rfl, [], [], fun _ => false, rfl, .nil _, fun c _ => by rw [List.take_zero]; exact (decide_eq_false (by simp)).symm⟩ ?_ ?_
        · rintro k us L hk - ⟨rfl, kb, vb, gb, rfl, hMb, hgb⟩
          have hgk := getD_map (f := aInts) hk
          have hkF := hlF _ (List.getElem_mem hk)
          have hky := run_key l[k] (isF_cb hs hkF).1
          obtain ⟨kb', vb', hput, hMb'⟩ := hMb.putB (keyS l[k]) true
          simp only [go_sem]
          repeat (first | ((with_reducible refine AWp.ofC ?_ ?_); (focus exact rfl); simp only [go_sem, hgk]) | ((with_reducible refine an ?_ ?_); focus exact Au))
          repeat ((with_reducible refine an ?_ ?_); focus exact As)
          refine (hky).val.use ?_; simp only [go_sem, n1, hput, hMb.fits]
          repeat ((with_reducible refine an ?_ ?_); focus exact As)
          repeat (first | ((with_reducible refine AWp.ofC ?_ ?_); (focus exact rfl); simp only [go_sem, hput, n1, n2, hMb.fits]) | ((with_reducible refine an ?_ ?_); focus exact Au))
          refine ⟨_, List.Sublist.refl _, kb', vb', _, rfl, hMb', fun c hc => ?_⟩
          have hmem : c ∈ l.take (k + 1) ↔ c ∈ l.take k ∨ c = l[k] := by
            rw [List.take_succ_eq_append_getElem hk, List.mem_append, List.mem_singleton]
          by_cases e : keyS c = keyS l[k]
          · have := keyS_inj (isF_byte hv hc) (isF_byte hv hkF) e
            rw [if_pos e, decide_eq_true (hmem.2 (.inr this))]
          · have e2 : ¬ c = l[k] := fun e2 => e (by rw [e2])
            rw [if_neg e, hgb c hc, decide_eq_decide, hmem]
            exact ⟨.inl, fun h => h.resolve_right e2⟩
        · rintro us L - ⟨rfl, kb, vb, gb, rfl, hMb, hgb⟩
          rw [List.take_length] at hgb
          have hgb : ∀ c, isF ps c = true → gb (keyS c) = badB l c := hgb
          simp only [go_sem]
          repeat (first | ((with_reducible refine AWp.ofC ?_ ?_); (focus exact rfl); simp only [go_sem]) | ((with_reducible refine an ?_ ?_); focus exact Au))
          refine AWp.block (AWp.loopN [13] [6, 8, 9, 10] (fun i us L => us = [ai ((i : Int) - 1)] ∧ i ≤ m.length ∧ ∃ ks vs, ∃ g : ByteArray → Bool, L = [(b40, .amap ks vs), (b39, .amap kb vb)] ∧ MpS ks vs (ab false) (fun s => ab (g s)) ∧ ∀ j (hj : j < m.length), i ≤ j → g (keyS m[j]) = opnV ps (badB l) m[j]) m.length ⟨rfl, Nat.le_refl _, [], [], fun _ => false, rfl, .nil _, fun j hj h => by omega⟩ ?_)
          rintro i us L - ⟨rfl, hi, ks, vs, g, rfl, hMp, hg⟩
          cases i with
          | zero =>
            have z : ¬ (0 : Int) ≤ ((0 : Nat) : Int) - 1 := by omega
            simp only [go_sem]
            repeat (first | ((with_reducible refine AWp.ofC ?_ ?_); (focus exact rfl); simp only [go_sem, z]) | ((with_reducible refine an ?_ ?_); focus exact Au))
            refine ret_viewK [true, false] (.tup [.rm ks vs, ai 0]) ⟨rfl, ks, vs, g, rfl, hMp, fun c hc => ?_⟩ ?_
            · obtain ⟨j, hj, rfl⟩ := List.getElem_of_mem ((hm c).2 hc)
              exact hg j hj (Nat.zero_le _)
            · simp only [go_sem]
              exact .mkTup (Vws.cons (.lm (if_pos rfl) rfl fun i x y hx hy => by rw [hx] at hy; cases hy; exact .refl _) (Vws.refl _))
          | succ i =>
            have z : (0 : Int) ≤ (i : Int) := by omega
            have hm1 : ((i + 1 : Nat) : Int) - 1 = (i : Int) := by omega
            have hml2 : i < m.length := by omega
            have hcF : isF ps m[i] = true := (hm _).1 (List.getElem_mem hml2)
            have hcl := (isF_iff.1 hcF).1
            have hcb := isF_cb hs hcF
            have hgm := getD_map (f := aInts) hml2
            have hkm := run_key m[i] hcb.1
            have hcsum := fun hne : ¬ i = m.length - 1 => show m[i].sum < off ps ps.length by
              have h1 := leq_sum (leq_full hcF)
              rw [fullC_sum] at h1
              have h2 : ¬ m[i].sum = off ps ps.length := fun e => by
                have h3 := (full_of_sum hcF).2 e
                rw [List.getD_eq_getElem?_getD, List.getElem?_eq_getElem (show m.length - 1 < m.length by omega)] at hlast
                have hlast : m[m.length - 1] = fullC ps := hlast
                have h4 := List.pairwise_iff_getElem.1 hord i (m.length - 1) hml2 (by omega) (by omega)
                rw [h3, hlast] at h4
                exact ordL_irr h4
              omega
            have hopn : opnV ps (badB l) m[i] = ((decide ((i : Int) = (m.length : Int) - 1) || (enF ps m[i] m[i].length).any fun p => opnV ps (badB l) (stpC m[i] p)) && !badB l m[i]) := by
              by_cases e : i = m.length - 1
              · rw [decide_eq_true (show (i : Int) = (m.length : Int) - 1 by omega), Bool.true_or, Bool.true_and]
                subst e
                rw [List.getD_eq_getElem?_getD, List.getElem?_eq_getElem hml2] at hlast
                have hlast : m[m.length - 1] = fullC ps := hlast
                rw [hlast]
                exact opnV_full (fullC_sum ps)
              · rw [decide_eq_false (show ¬ (i : Int) = (m.length : Int) - 1 by omega), Bool.false_or, opnV_stp hcF (hcsum e), Bool.and_comm]
            have hstm := hstep i hml2
            have hbyt := isF_byte hv hcF
            have hmayc := fun p => hmay m[i] hcF p
            have hbc := hgb m[i] hcF
            obtain ⟨c, hc⟩ : ∃ c, c = m[i] := ⟨_, rfl⟩
            rw [← hc] at hcF hcl hcb hgm hkm hopn hstm hbyt hmayc hbc
            have hb1 := hMb.get (keyS c)
            rw [hbc] at hb1
            rw [hm1]
            simp only [go_sem]
            repeat (first | ((with_reducible refine AWp.ofC ?_ ?_); (focus exact rfl); simp only [go_sem, z, hgm]) | ((with_reducible refine an ?_ ?_); focus exact Au))
            refine AWp.range' c.length [15] [6, 8, 9, 10, 13, 14, 68] (fun k us L => us = [ab (decide ((i : Int) = (m.length : Int) - 1) || (enF ps c k).any fun p => opnV ps (badB l) (stpC c p))] ∧ L = [(b40, .amap ks vs), (b39, .amap kb vb)]) (by omega) rfl rfl rfl ⟨by simp [enF]; rfl, rfl⟩ ?_ ?_
            · rintro k us L hk - ⟨rfl, rfl⟩
              have hmp := hmayc k
              rw [mayF_nat hcl hk] at hmp
              have hne := run_next c hcb.1 hcb.2 k hk
              have hky := run_key (stpC c k) (by rw [stp_len]; exact hcb.1)
              have hgs := hMp.get (keyS (stpC c k))
              have hsu : ((enF ps c (k + 1)).any fun p => opnV ps (badB l) (stpC c p)) = (((enF ps c k).any fun p => opnV ps (badB l) (stpC c p)) || (rdyF ps c k && g (keyS (stpC c k)))) := by
                rw [enF_succ, List.any_append]
                congr 1
                cases hr : rdyF ps c k with
                | true =>
                  have hE : k ∈ enF ps c c.length := mem_enF.2 ⟨hk, hr⟩
                  obtain ⟨s1, s2, s3⟩ := hstm k hE
                  have hfk := hg _ s2 (by omega)
                  rw [s3] at hfk
                  rw [hfk]; simp
                | false => simp
              rw [hsu, ← Bool.or_assoc]
              generalize (decide ((i : Int) = (m.length : Int) - 1) || (enF ps c k).any fun p => opnV ps (badB l) (stpC c p)) = on at *
              simp only [go_sem]
              repeat (first | ((with_reducible refine AWp.ofC ?_ ?_); (focus exact rfl); simp only [go_sem, hrf]) | ((with_reducible refine an ?_ ?_); focus exact Au))
              repeat ((with_reducible refine an ?_ ?_); focus exact As)
              refine GCall.use (ab (rdyF ps c k)) (fun _ => ⟨At, (hmp).val.use ⟨rfl, rfl⟩⟩) ?_; simp only [go_sem]
              repeat ((with_reducible refine an ?_ ?_); focus exact As)
              refine GCall.use (aInts (stpC c k)) (fun _ => ⟨At, (hne).val.use ⟨rfl, rfl⟩⟩) ?_; simp only [go_sem]
              repeat ((with_reducible refine an ?_ ?_); focus exact As)
              refine GCall.use (.v (.string (keyS (stpC c k)))) (fun _ => ⟨At, (hky).val.use ⟨rfl, rfl⟩⟩) ?_; simp only [go_sem, n2, hgs]
              repeat ((with_reducible refine an ?_ ?_); focus exact As)
              repeat (first | ((with_reducible refine AWp.ofC ?_ ?_); (focus exact rfl); simp only [go_sem, hgm, hrf, hgs, n1, n2, hMp.fits]) | ((with_reducible refine an ?_ ?_); focus exact Au))
              exact ⟨fun h1 h2 => ⟨⟨h1, h2⟩, hMp.fits⟩, fun h1 => ⟨h1, fun h2 => ⟨h1, h2⟩⟩, _, List.Sublist.refl _, rfl⟩
            · rintro us L - ⟨rfl, rfl⟩
              obtain ⟨ks', vs', hput', hMp'⟩ := hMp.putB (keyS c) (opnV ps (badB l) c)
              rw [hopn] at hput'
              generalize (decide ((i : Int) = (m.length : Int) - 1) || (enF ps c c.length).any fun p => opnV ps (badB l) (stpC c p)) = on at *
              simp only [go_sem]
              repeat (first | ((with_reducible refine AWp.ofC ?_ ?_); (focus exact rfl); simp only [go_sem]) | ((with_reducible refine an ?_ ?_); focus exact Au))
              repeat ((with_reducible refine an ?_ ?_); focus exact As)
              refine (hkm).val.use ?_; simp only [go_sem]
              repeat ((with_reducible refine an ?_ ?_); focus exact As)
              repeat (first | ((with_reducible refine AWp.ofC ?_ ?_); (focus exact rfl); simp only [go_sem, hgm, hrf, n1, n2]) | ((with_reducible refine an ?_ ?_); focus exact Au))
              repeat ((with_reducible refine an ?_ ?_); focus exact As)
              refine GCall.use (.v (.string (keyS c))) (fun _ => ⟨At, (hkm).val.use ⟨rfl, rfl⟩⟩) ?_; simp only [go_sem, n1, n2, hb1, hput', hMp.fits, hMb.fits]
              repeat ((with_reducible refine an ?_ ?_); focus exact As)
              repeat (first | ((with_reducible refine AWp.ofC ?_ ?_); (focus exact rfl); simp only [go_sem]) | ((with_reducible refine an ?_ ?_); focus exact Au))
              refine ⟨_, List.Sublist.refl _, i, by omega, by congr 3, by omega, ks', vs', _, rfl, hMp', fun j hj hmj => ?_⟩
              by_cases e : keyS m[j] = keyS c
              · rw [if_pos e]
                have hjF : isF ps m[j] = true := (hm _).1 (List.getElem_mem hj)
                rw [keyS_inj (isF_byte hv hjF) hbyt e]
              · rw [if_neg e]
                have hne : j ≠ i := fun e2 => by subst e2; exact e (by rw [hc])
                exact hg j hj (by omega)
noncomputable def blkB (ps : List Pr) (l : List (List Int)) : Bool := decide (avE ps l = 0) && !opnV ps (badB l) (zeroC ps)
theorem avE_valid {ps : List Pr} {l : List (List Int)} (h : avE ps l = 0) : validF ps = true := by
  unfold avE at h
  split at h
  · assumption
  · cases h
theorem run_Blocked (ps : List Pr) (hs : Sm ps) (l : List (List Int)) : PC Go.Proofs.Tryz.prog 17 [aTr ps, aRows l] (.tup [ab (blkB ps l), ai (avE ps l)]) := by
  have haR : ∀ x : List (List Int), aRows x = .sl 1 (x.map aInts) := fun _ => rfl
  by_cases h : avE ps l = 0
  · have hv := avE_valid h
    have hb : blkB ps l = !opnV ps (badB l) (zeroC ps) := by unfold blkB; rw [decide_eq_true h, Bool.true_and]
    have hA := run_avoidingG ps hs l h
    have hop := run_open ps hs hv
    have hz := run_zero ps hv
    have hkz := run_key (zeroC ps) (isF_cb hs (zeroC_is ps)).1
    rw [h, hb]
    rw [haR] at *
    obtain ⟨r, hr⟩ : ∃ r, r = aRs ps := ⟨_, rfl⟩
    have hrf : fo r = (True, r) := by rw [hr]; rfl
    rw [← hr] at hop hz
    clear hr
    refine PC.enter 24 [.tmp 4, .tmp 5] [2] Go.Proofs.Tryz.func17 rfl rfl rfl rfl rfl (by simp) (AWp.of ?_); simp only [go_sem]
    repeat (first | ((with_reducible refine AWp.ofC ?_ ?_); (focus exact rfl); simp only [go_sem]) | ((with_reducible refine an ?_ ?_); focus exact Au))
    repeat ((with_reducible refine an ?_ ?_); focus exact As)
    refine hA.val.mono ?_
    rintro R L ⟨rfl, ks, vs, g, rfl, hMp, hg⟩
    have hgz := hMp.get (keyS (zeroC ps))
    rw [hg _ (zeroC_is ps)] at hgz
    simp only [go_sem]
    repeat (first | ((with_reducible refine AWp.ofC ?_ ?_); (focus exact rfl); simp only [go_sem]) | ((with_reducible refine an ?_ ?_); focus exact Au))
    repeat ((with_reducible refine an ?_ ?_); focus exact As)
    refine (hop).val.use ?_; simp only [go_sem, hrf]
    repeat ((with_reducible refine an ?_ ?_); focus exact As)
    refine (hz).val.use ?_; simp only [go_sem]
    repeat ((with_reducible refine an ?_ ?_); focus exact As)
    refine (hkz).val.use ?_; simp only [go_sem, hgz, hMp.fits]
    repeat ((with_reducible refine an ?_ ?_); focus exact As)
    repeat (first | ((with_reducible refine AWp.ofC ?_ ?_); (focus exact rfl); simp only [go_sem]) | ((with_reducible refine an ?_ ?_); focus exact Au))
    refine ret_eq ?_; simp only [go_sem]
  · have hA := run_avoidBad ps hs l h
    have hb : blkB ps l = false := by unfold blkB; rw [decide_eq_false h]; rfl
    rw [hb]
    rw [haR] at *
    refine PC.enter 24 [.tmp 4, .tmp 5] [2] Go.Proofs.Tryz.func17 rfl rfl rfl rfl rfl (by simp) (AWp.of ?_); simp only [go_sem]
    repeat (first | ((with_reducible refine AWp.ofC ?_ ?_); (focus exact rfl); simp only [go_sem]) | ((with_reducible refine an ?_ ?_); focus exact Au))
    repeat ((with_reducible refine an ?_ ?_); focus exact As)
    refine (hA).val.use ?_; simp only [go_sem]
    repeat (first | ((with_reducible refine AWp.ofC ?_ ?_); (focus exact rfl); simp only [go_sem, h]) | ((with_reducible refine an ?_ ?_); focus exact Au))
    refine ret_eq ?_; simp only [go_sem]
noncomputable def avdE (ps : List Pr) (l : List (List Int)) : Int := if avE ps l = 0 then (if opnV ps (badB l) (zeroC ps) = true then 0 else 7) else avE ps l
noncomputable def avdF (ps : List Pr) (l : List (List Int)) : List (List Int) := if avdE ps l = 0 then wlkF ps (opnV ps (badB l)) else []
theorem run_Avoid1 (c : List Int) (hc : c.length ≤ 1000000) (ks : List Value) (vs : List AV) (g : ByteArray → Bool) (hMp : MpS ks vs (ab false) fun s => ab (g s)) : PC Go.Proofs.Tryz.prog 62 [aInts c, .rp 1 [.rm ks vs] 0 0] (ab (g (keyS c))) := by
  have hky := run_key c hc
  have hgs := hMp.get (keyS c)
  refine PC.enter 8 [.tmp 3] [] Go.Proofs.Tryz.func62 rfl rfl rfl rfl rfl (by simp) (AWp.of ?_); simp only [go_sem]
  repeat (first | ((with_reducible refine AWp.ofC ?_ ?_); (focus exact rfl); simp only [go_sem]) | ((with_reducible refine an ?_ ?_); focus exact Au))
  refine AWp.seq ?_
  repeat (first | (with_reducible refine AWp.seq ?_) | (with_reducible refine AWp.block ?_))
  refine AWp.read mixed [0, 1, 2, 3, 4] (by kernel_rfl) ?_; simp only [go_sem]
  repeat ((with_reducible refine an ?_ ?_); focus exact As)
  repeat ((with_reducible refine an ?_ ?_); focus exact As)
  refine GCall.use (.v (.string (keyS c))) (fun _ => ⟨At, (hky).val.use ⟨rfl, rfl⟩⟩) ?_; simp only [go_sem, hgs, hMp.fits]
  repeat (first | ((with_reducible refine AWp.ofC ?_ ?_); (focus exact rfl); simp only [go_sem]) | ((with_reducible refine an ?_ ?_); focus exact Au))
  refine ret_eq ?_; simp only [go_sem]
theorem run_Avoid (ps : List Pr) (hs : Sm ps) (l : List (List Int)) : PC Go.Proofs.Tryz.prog 16 [aTr ps, aRows l] (.tup [aRows (avdF ps l), ai (avdE ps l)]) := by
  have haR : ∀ x : List (List Int), aRows x = .sl 1 (x.map aInts) := fun _ => rfl
  by_cases h : avE ps l = 0
  · have hv := avE_valid h
    have hA := run_avoidingG ps hs l h
    have hop := run_open ps hs hv
    have hz := run_zero ps hv
    have hkz := run_key (zeroC ps) (isF_cb hs (zeroC_is ps)).1
    have hE : avdE ps l = if opnV ps (badB l) (zeroC ps) = true then 0 else 7 := by unfold avdE; rw [if_pos h]
    have hF : avdF ps l = if avdE ps l = 0 then wlkF ps (opnV ps (badB l)) else [] := rfl
    have hwk := run_walk ps hs hv
    generalize avdE ps l = e at *
    generalize avdF ps l = F at *
    obtain ⟨r, hr⟩ : ∃ r, r = aRs ps := ⟨_, rfl⟩
    have hrf : fo r = (True, r) := by rw [hr]; rfl
    rw [← hr] at hop hz hwk
    clear hr
    cases hop0 : opnV ps (badB l) (zeroC ps) with
    | false =>
      rw [hop0, if_neg (by decide)] at hE
      subst hE
      rw [if_neg (by decide)] at hF
      subst hF
      rw [haR] at *
      refine PC.enter 29 [.tmp 4, .tmp 5] [2, 6] Go.Proofs.Tryz.func16 rfl rfl rfl rfl rfl (by simp) (AWp.of ?_); simp only [go_sem]
      repeat (first | ((with_reducible refine AWp.ofC ?_ ?_); (focus exact rfl); simp only [go_sem]) | ((with_reducible refine an ?_ ?_); focus exact Au))
      repeat ((with_reducible refine an ?_ ?_); focus exact As)
      refine hA.val.mono ?_
      rintro R L ⟨rfl, ks, vs, g, rfl, hMp, hg⟩
      have hgz := hMp.get (keyS (zeroC ps))
      rw [hg _ (zeroC_is ps), hop0] at hgz
      simp only [go_sem]
      intro b6
      repeat (first | ((with_reducible refine AWp.ofC ?_ ?_); (focus exact rfl); simp only [go_sem]) | ((with_reducible refine an ?_ ?_); focus exact Au))
      repeat ((with_reducible refine an ?_ ?_); focus exact As)
      refine (hop).val.use ?_; simp only [go_sem, hrf]
      repeat (first | ((with_reducible refine AWp.ofC ?_ ?_); (focus exact rfl); simp only [go_sem, hrf]) | ((with_reducible refine an ?_ ?_); focus exact Au))
      refine AWp.seq (AWp.seq ?_)
      repeat (first | (with_reducible refine AWp.seq ?_) | (with_reducible refine AWp.block ?_))
      refine AWp.read mixed [0, 1, 2, 3, 4, 5] (by kernel_rfl) ?_; simp only [go_sem, hrf]
      repeat ((with_reducible refine an ?_ ?_); focus exact As)
      repeat ((with_reducible refine an ?_ ?_); focus exact As)
      refine GCall.use (aInts (zeroC ps)) (fun _ => ⟨At, (hz).val.use ⟨rfl, rfl⟩⟩) ?_; simp only [go_sem]
      repeat ((with_reducible refine an ?_ ?_); focus exact As)
      refine GCall.use (.v (.string (keyS (zeroC ps)))) (fun _ => ⟨At, (hkz).val.use ⟨rfl, rfl⟩⟩) ?_; simp only [go_sem, hgz, hMp.fits]
      repeat (first | ((with_reducible refine AWp.ofC ?_ ?_); (focus exact rfl); simp only [go_sem]) | ((with_reducible refine an ?_ ?_); focus exact Au))
      refine ret_view [] ?_; simp only [go_sem]
      exact .mkTup (Vws.cons (.nil 1) (Vws.refl _))
    | true =>
      rw [hop0, if_pos rfl] at hE
      subst hE
      rw [if_pos rfl] at hF
      subst hF
      rw [haR] at hA
      rw [haR]
      refine PC.enter 29 [.tmp 4, .tmp 5] [2, 6] Go.Proofs.Tryz.func16 rfl rfl rfl rfl rfl (by simp) (AWp.of ?_); simp only [go_sem]
      repeat (first | ((with_reducible refine AWp.ofC ?_ ?_); (focus exact rfl); simp only [go_sem]) | ((with_reducible refine an ?_ ?_); focus exact Au))
      repeat ((with_reducible refine an ?_ ?_); focus exact As)
      refine hA.val.mono ?_
      rintro R L ⟨rfl, ks, vs, g, rfl, hMp, hg⟩
      have hwk := hwk (.clo 62 [.rp 1 [.rm ks vs] 0 0]) rfl (opnV ps (badB l)) fun d hd => by
        have h1 := run_Avoid1 d (isF_cb hs hd).1 ks vs g hMp
        rw [hg d hd] at h1
        exact h1.clo
      have hgz := hMp.get (keyS (zeroC ps))
      rw [hg _ (zeroC_is ps), hop0] at hgz
      generalize wlkF ps (opnV ps (badB l)) = F at *
      simp only [go_sem]
      intro b6
      repeat (first | ((with_reducible refine AWp.ofC ?_ ?_); (focus exact rfl); simp only [go_sem]) | ((with_reducible refine an ?_ ?_); focus exact Au))
      repeat ((with_reducible refine an ?_ ?_); focus exact As)
      refine (hop).val.use ?_; simp only [go_sem, hrf]
      repeat (first | ((with_reducible refine AWp.ofC ?_ ?_); (focus exact rfl); simp only [go_sem, hrf]) | ((with_reducible refine an ?_ ?_); focus exact Au))
      refine AWp.seq (AWp.seq ?_)
      repeat (first | (with_reducible refine AWp.seq ?_) | (with_reducible refine AWp.block ?_))
      refine AWp.read mixed [0, 1, 2, 3, 4, 5] (by kernel_rfl) ?_; simp only [go_sem, hrf]
      repeat ((with_reducible refine an ?_ ?_); focus exact As)
      repeat ((with_reducible refine an ?_ ?_); focus exact As)
      refine GCall.use (aInts (zeroC ps)) (fun _ => ⟨At, (hz).val.use ⟨rfl, rfl⟩⟩) ?_; simp only [go_sem]
      repeat ((with_reducible refine an ?_ ?_); focus exact As)
      refine GCall.use (.v (.string (keyS (zeroC ps)))) (fun _ => ⟨At, (hkz).val.use ⟨rfl, rfl⟩⟩) ?_; simp only [go_sem, hgz, hMp.fits]
      repeat (first | ((with_reducible refine AWp.ofC ?_ ?_); (focus exact rfl); simp only [go_sem, hrf]) | ((with_reducible refine an ?_ ?_); focus exact Au))
      repeat ((with_reducible refine an ?_ ?_); focus exact As)
      refine (hwk).val.use ?_; simp only [go_sem]
      repeat (first | ((with_reducible refine AWp.ofC ?_ ?_); (focus exact rfl); simp only [go_sem]) | ((with_reducible refine an ?_ ?_); focus exact Au))
      refine ret_eq ?_; simp only [go_sem]
  · have hA := run_avoidBad ps hs l h
    have hE : avdE ps l = avE ps l := by unfold avdE; rw [if_neg h]
    have hF : avdF ps l = [] := by unfold avdF; rw [hE, if_neg h]
    rw [hE, hF]
    rw [haR] at hA
    refine PC.enter 29 [.tmp 4, .tmp 5] [2, 6] Go.Proofs.Tryz.func16 rfl rfl rfl rfl rfl (by simp) (AWp.of ?_); simp only [go_sem]
    repeat (first | ((with_reducible refine AWp.ofC ?_ ?_); (focus exact rfl); simp only [go_sem]) | ((with_reducible refine an ?_ ?_); focus exact Au))
    repeat ((with_reducible refine an ?_ ?_); focus exact As)
    refine (hA).val.use ?_; simp only [go_sem]
    intro b6
    repeat (first | ((with_reducible refine AWp.ofC ?_ ?_); (focus exact rfl); simp only [go_sem, h]) | ((with_reducible refine an ?_ ?_); focus exact Au))
    refine ret_view [] ?_; simp only [go_sem]
    exact .mkTup (Vws.cons (.nil 1) (Vws.refl _))
end Go.AL
end
section
/- The reference of runs: same, Same. No condition. -/
namespace Go.AL
open Go Go.RowKit
set_option maxRecDepth 4000
theorem ref24_same (a b : List Int) (ha : a.length ≤ 1000000) : PC Go.Proofs.Tryz.prog 69 [aInts a, aInts b] (ab (decide (a = b))) := by
  by_cases hl : a.length = b.length
  · have hli : (a.length : Int) = b.length := by omega
    refine PC.enter 26 [.tmp 4] [] Go.Proofs.Tryz.func69 rfl rfl rfl rfl rfl (by simp) (AWp.of ?_); simp only [go_sem]
    repeat (first | ((with_reducible refine AWp.ofC ?_ ?_); (focus exact rfl); simp only [go_sem, hli]) | ((with_reducible refine an ?_ ?_); focus exact Au))
    refine AWp.block (AWp.count 5 a.length [] [0, 1] (fun k vs L => L = [] ∧ ∀ j (h1 : j < a.length) (h2 : j < b.length), j < k → a[j] = b[j]) rfl rfl ⟨rfl, fun j _ _ h => by omega⟩ ?_)
    rintro k vs L hk - ⟨rfl, hI⟩
    simp only [go_sem]
    repeat (first | ((with_reducible refine AWp.ofC ?_ ?_); (focus exact rfl); simp only [go_sem, hli]) | ((with_reducible refine an ?_ ?_); focus exact Au))
    refine ⟨fun h3 => ?_, fun h3 => ?_⟩
    · have hka : k < a.length := by omega
      have hkb : k < b.length := by omega
      have ga := getD_map (f := ai) hka
      have gb := getD_map (f := ai) hkb
      refine AWp.seq (AWp.block (AWp.seq ?_))
      refine AWp.drawn mixed 9 (by kernel_rfl) ?_; simp only [go_sem, ga, gb]
      repeat ((with_reducible refine an ?_ ?_); focus exact As)
      repeat (first | ((with_reducible refine AWp.ofC ?_ ?_); (focus exact rfl); simp only [go_sem]) | ((with_reducible refine an ?_ ?_); focus exact Au))
      refine ⟨fun h4 => ?_, fun h4 => ?_⟩
      · repeat (first | ((with_reducible refine AWp.ofC ?_ ?_); (focus exact rfl); simp only [go_sem]) | ((with_reducible refine an ?_ ?_); focus exact Au))
        refine ret_eq ?_; simp only [go_sem]
        rw [decide_eq_false]
        rintro rfl
        exact h4 rfl
      · repeat (first | ((with_reducible refine AWp.ofC ?_ ?_); (focus exact rfl); simp only [go_sem]) | ((with_reducible refine an ?_ ?_); focus exact Au))
        refine ⟨_, List.Sublist.refl _, rfl, fun j j1 j2 hj => ?_⟩
        by_cases e : j = k
        · subst e; omega
        · exact hI j j1 j2 (by omega)
    · repeat (first | ((with_reducible refine AWp.ofC ?_ ?_); (focus exact rfl); simp only [go_sem]) | ((with_reducible refine an ?_ ?_); focus exact Au))
      refine ret_eq ?_; simp only [go_sem]
      rw [decide_eq_true]
      exact List.ext_getElem hl fun j j1 j2 => hI j j1 j2 (by omega)
  · have hli : ¬ (a.length : Int) = b.length := by omega
    rw [decide_eq_false fun h => hl (by rw [h])]
    refine PC.enter 26 [.tmp 4] [] Go.Proofs.Tryz.func69 rfl rfl rfl rfl rfl (by simp) (AWp.of ?_); simp only [go_sem]
    repeat (first | ((with_reducible refine AWp.ofC ?_ ?_); (focus exact rfl); simp only [go_sem, hli]) | ((with_reducible refine an ?_ ?_); focus exact Au))
    refine ret_eq ?_; simp only [go_sem]
theorem ref24_Same (a b : List (List Int)) (ha : a.length ≤ 1000000) (hx : ∀ x ∈ a, x.length ≤ 1000000) : PC Go.Proofs.Tryz.prog 22 [aRows a, aRows b] (ab (decide (a = b))) := by
  have hR : ∀ x : List (List Int), aRows x = .sl 1 (x.map aInts) := fun _ => rfl
  rw [hR, hR]
  by_cases hl : a.length = b.length
  · have hli : (a.length : Int) = b.length := by omega
    refine PC.enter 27 [.tmp 4] [] Go.Proofs.Tryz.func22 rfl rfl rfl rfl rfl (by simp) (AWp.of ?_); simp only [go_sem]
    repeat (first | ((with_reducible refine AWp.ofC ?_ ?_); (focus exact rfl); simp only [go_sem, hli]) | ((with_reducible refine an ?_ ?_); focus exact Au))
    refine AWp.block (AWp.count 5 a.length [] [0, 1] (fun k vs L => L = [] ∧ ∀ j (h1 : j < a.length) (h2 : j < b.length), j < k → a[j] = b[j]) rfl rfl ⟨rfl, fun j _ _ h => by omega⟩ ?_)
    rintro k vs L hk - ⟨rfl, hI⟩
    simp only [go_sem]
    repeat (first | ((with_reducible refine AWp.ofC ?_ ?_); (focus exact rfl); simp only [go_sem, hli]) | ((with_reducible refine an ?_ ?_); focus exact Au))
    refine ⟨fun h3 => ?_, fun h3 => ?_⟩
    · have hka : k < a.length := by omega
      have hkb : k < b.length := by omega
      have ga := getD_map (f := aInts) hka
      have gb := getD_map (f := aInts) hkb
      have hsl := ref24_same a[k] b[k] (hx _ (List.getElem_mem hka))
      refine AWp.seq (AWp.block (AWp.seq ?_))
      repeat (first | (with_reducible refine AWp.seq ?_) | (with_reducible refine AWp.block ?_))
      refine AWp.read mixed [0, 1, 2, 3, 4, 5, 6, 7, 8, 9] (by kernel_rfl) ?_; simp only [go_sem, ga, gb]
      repeat ((with_reducible refine an ?_ ?_); focus exact As)
      refine GCall.use (ab (decide (a[k] = b[k]))) (fun _ => ⟨At, hsl.val.use ⟨rfl, rfl⟩⟩) ?_
      simp only [go_sem]
      repeat ((with_reducible refine an ?_ ?_); focus exact As)
      repeat (first | ((with_reducible refine AWp.ofC ?_ ?_); (focus exact rfl); simp only [go_sem]) | ((with_reducible refine an ?_ ?_); focus exact Au))
      refine ⟨fun h4 => ?_, fun h4 => ?_⟩
      · repeat (first | ((with_reducible refine AWp.ofC ?_ ?_); (focus exact rfl); simp only [go_sem]) | ((with_reducible refine an ?_ ?_); focus exact Au))
        refine ret_eq ?_; simp only [go_sem]
        rw [decide_eq_false]
        rintro rfl
        exact h4 rfl
      · repeat (first | ((with_reducible refine AWp.ofC ?_ ?_); (focus exact rfl); simp only [go_sem]) | ((with_reducible refine an ?_ ?_); focus exact Au))
        refine ⟨_, List.Sublist.refl _, rfl, fun j j1 j2 hj => ?_⟩
        by_cases e : j = k
        · subst e; exact h4
        · exact hI j j1 j2 (by omega)
    · repeat (first | ((with_reducible refine AWp.ofC ?_ ?_); (focus exact rfl); simp only [go_sem]) | ((with_reducible refine an ?_ ?_); focus exact Au))
      refine ret_eq ?_; simp only [go_sem]
      rw [decide_eq_true]
      exact List.ext_getElem hl fun j j1 j2 => hI j j1 j2 (by omega)
  · have hli : ¬ (a.length : Int) = b.length := by omega
    rw [decide_eq_false fun h => hl (by rw [h])]
    refine PC.enter 27 [.tmp 4] [] Go.Proofs.Tryz.func22 rfl rfl rfl rfl rfl (by simp) (AWp.of ?_); simp only [go_sem]
    repeat (first | ((with_reducible refine AWp.ofC ?_ ?_); (focus exact rfl); simp only [go_sem, hli]) | ((with_reducible refine an ?_ ?_); focus exact Au))
    refine ret_eq ?_; simp only [go_sem]
end Go.AL
end
section
/- The laws on runs: their example and their bounds. No condition. -/
namespace Go.AL
open Go Go.RowKit
set_option maxRecDepth 4000
def psR : List Pr := [⟨⟨#[97]⟩, [], [⟨1, 0, 0, 0, []⟩]⟩, ⟨⟨#[98]⟩, [], [⟨1, 0, 0, 0, []⟩]⟩]
theorem psR_valid : validF psR = true := by
  unfold validF faultF
  rw [if_neg (by decide), show procFirst psR = none from rfl, show evFirst psR = none from rfl, show msgF psR = none from rfl, cycF_rank (fun x => x.1) (by decide)]
  rfl
theorem psR_sm : Sm psR := ⟨by decide, by decide, by decide, by decide⟩
theorem psR_cuts : cutsF psR = [[0, 0], [0, 1], [1, 0], [1, 1]] := by rfl
theorem psR_zero : lstE psR = 0 := lst_zero.2 ⟨psR_valid, by rw [psR_cuts]; decide⟩
theorem psR_way : wayV psR (zeroC psR) = 2 := by rfl
theorem psR_av1 : avE psR [[1, 0]] = 0 := by
  unfold avE
  rw [psR_valid, if_pos rfl, if_neg (by decide), show (([[1, 0]] : List (List Int)).any fun c => !isF psR c) = false from rfl, if_neg (by decide), psR_zero]
theorem psR_av2 : avE psR [[1, 0], [0, 1]] = 0 := by
  unfold avE
  rw [psR_valid, if_pos rfl, if_neg (by decide), show (([[1, 0], [0, 1]] : List (List Int)).any fun c => !isF psR c) = false from rfl, if_neg (by decide), psR_zero]
theorem psR_o1 : opnV psR (badB [[1, 0]]) (zeroC psR) = true := by decide
theorem psR_o2 : opnV psR (badB [[1, 0], [0, 1]]) (zeroC psR) = false := by decide
theorem psR_w : wlkF psR (opnV psR (badB [[1, 0]])) = [[0, 0], [0, 1], [1, 1]] := by decide
theorem law24_awake : PC Go.Proofs.Tryz.prog 9 [] (ab true) := by
  have h1 := run_Count psR psR_sm
  have h2 := run_Avoid psR psR_sm [[1, 0]]
  have h3 := run_Blocked psR psR_sm [[1, 0], [0, 1]]
  have h4 := ref24_Same [[0, 0], [0, 1], [1, 1]] [[0, 0], [0, 1], [1, 1]] (by decide) (by decide)
  rw [decide_eq_true rfl] at h4
  have e1 : cnE psR = 0 := by unfold cnE; rw [psR_zero, if_neg (by decide), psR_way, if_neg (by decide)]
  have e2 : cnN psR = 2 := by unfold cnN; rw [e1, if_pos rfl, psR_way]; rfl
  have e3 : avdE psR [[1, 0]] = 0 := by unfold avdE; rw [psR_av1, if_pos rfl, psR_o1, if_pos rfl]
  have e4 : avdF psR [[1, 0]] = [[0, 0], [0, 1], [1, 1]] := by unfold avdF; rw [e3, if_pos rfl, psR_w]
  have e5 : blkB psR [[1, 0], [0, 1]] = true := by unfold blkB; rw [psR_av2, psR_o2]; rfl
  rw [e1, e2] at h1
  rw [e3, e4] at h2
  rw [e5, psR_av2] at h3
  refine PC.enter 62 [.tmp 0] [2, 10, 15, 24, 25, 31, 32, 33, 45, 46, 47, 48] Go.Proofs.Tryz.func9 rfl rfl rfl rfl rfl (by simp) (AWp.of ?_); simp only [go_sem]
  repeat (first | ((with_reducible refine AWp.ofC ?_ ?_); (focus exact rfl); simp only [go_sem]) | ((with_reducible refine an ?_ ?_); focus exact Au))
  intro b2
  have hvw : Vw [] (.rp 1 [.agg [.sl 3 [.agg [.v (.string ⟨#[97]⟩), anil, .sl 5 [.agg [ai 1, ai 0, ai 0, ai 0, anil]]], .agg [.v (.string ⟨#[98]⟩), anil, .sl 5 [.agg [ai 1, ai 0, ai 0, ai 0, anil]]]]]] 0 0) (.rp 1 [aTr psR] 0 0) := by
    have h5 : Vw [] (.agg [ai 1, ai 0, ai 0, ai 0, anil]) (aEv ⟨1, 0, 0, 0, []⟩) := .mkAgg (Vws.cons (.refl _) (Vws.cons (.refl _) (Vws.cons (.refl _) (Vws.cons (.refl _) (Vws.cons (.nil 2) .nil)))))
    have h6 : ∀ s : ByteArray, Vw [] (.agg [.v (.string s), anil, .sl 5 [.agg [ai 1, ai 0, ai 0, ai 0, anil]]]) (aPr ⟨s, [], [⟨1, 0, 0, 0, []⟩]⟩) := fun s => .mkAgg (Vws.cons (.refl _) (Vws.cons (.nil 2) (Vws.cons (.mkSl (Vws.cons h5 .nil)) .nil)))
    have h7 : Vw [] (.agg [.sl 3 [.agg [.v (.string ⟨#[97]⟩), anil, .sl 5 [.agg [ai 1, ai 0, ai 0, ai 0, anil]]], .agg [.v (.string ⟨#[98]⟩), anil, .sl 5 [.agg [ai 1, ai 0, ai 0, ai 0, anil]]]]]) (aTr psR) := .mkAgg (Vws.cons (.mkSl (Vws.cons (h6 _) (Vws.cons (h6 _) .nil))) .nil)
    have h8 := Vws.cons h7 .nil
    exact .rp h8.1 h8.2
  refine AWp.view [] [(2, .rp 1 [aTr psR] 0 0)] (LVw.none _) (fun p hp => by
    rw [List.mem_singleton] at hp; subst hp; exact hvw) ?_
  simp only [go_sem]
  repeat (first | ((with_reducible refine AWp.ofC ?_ ?_); (focus exact rfl); simp only [go_sem]) | ((with_reducible refine an ?_ ?_); focus exact Au))
  repeat ((with_reducible refine an ?_ ?_); focus exact As)
  refine (h1).val.use ?_; simp only [go_sem]
  repeat (first | ((with_reducible refine AWp.ofC ?_ ?_); (focus exact rfl); simp only [go_sem]) | ((with_reducible refine an ?_ ?_); focus exact Au))
  repeat ((with_reducible refine an ?_ ?_); focus exact As)
  refine (h2).val.use ?_; simp only [go_sem]
  repeat (first | ((with_reducible refine AWp.ofC ?_ ?_); (focus exact rfl); simp only [go_sem]) | ((with_reducible refine an ?_ ?_); focus exact Au))
  repeat ((with_reducible refine an ?_ ?_); focus exact As)
  refine (h3).val.use ?_; simp only [go_sem]
  repeat (first | ((with_reducible refine AWp.ofC ?_ ?_); (focus exact rfl); simp only [go_sem]) | ((with_reducible refine an ?_ ?_); focus exact Au))
  repeat ((with_reducible refine an ?_ ?_); focus exact As)
  refine GCall.use (ab true) (fun _ => ⟨At, (h4).val.use ⟨rfl, rfl⟩⟩) ?_; simp only [go_sem]
  repeat (first | ((with_reducible refine AWp.ofC ?_ ?_); (focus exact rfl); simp only [go_sem]) | ((with_reducible refine an ?_ ?_); focus exact Au))
  refine ret_eq ?_; simp only [go_sem]
/-! Small traces. -/
def asg12 (e : Ev) : Bool := decide (12 < (e.asg.length : Int))
def smP (x : Pr) : Bool := !(decide (12 < (x.vars.length : Int)) || x.evs.any asg12)
/-- The sum as the program reckons it: it may wrap. -/
def smW (ps : List Pr) : Nat → Int
  | 0 => 0
  | k + 1 => addW (smW ps k) (nev ps k)
def smF (ps : List Pr) (m : Int) : Bool := decide (ps.length ≤ 10) && (ps.all smP && decide (smW ps ps.length ≤ m))
theorem smF_cases {ps : List Pr} {m : Int} (h : smF ps m = true) : Sm ps ∨ (Smh ps ∧ ∃ p, p < ps.length ∧ procF ps p ≠ 0) := by
  unfold smF at h
  rw [Bool.and_eq_true, Bool.and_eq_true, decide_eq_true_eq, List.all_eq_true] at h
  obtain ⟨h1, h2, _⟩ := h
  have h3 : ∀ p ∈ ps, p.vars.length ≤ 12 ∧ ∀ e ∈ p.evs, e.asg.length ≤ 12 := fun p hp => by
    have := h2 p hp
    unfold smP at this
    rw [Bool.not_eq_true', Bool.or_eq_false_iff, decide_eq_false_iff_not, List.any_eq_false] at this
    refine ⟨by omega, fun e he => ?_⟩
    have := this.2 e he
    unfold asg12 at this
    simp at this
    omega
  by_cases hb : ∃ p, ∃ h : p < ps.length, 64 < ps[p].evs.length
  · obtain ⟨p, hp, hb⟩ := hb
    exact .inr ⟨⟨by omega, fun p hp => by have := (h3 p hp).1; omega⟩, p, hp, procF_evs hp hb⟩
  · refine .inl ⟨by omega, fun p hp => ?_, fun p hp => by have := (h3 p hp).1; omega, fun p hp e he => by have := (h3 p hp).2 e he; omega⟩
    obtain ⟨i, hi, rfl⟩ := List.getElem_of_mem hp
    apply Classical.byContradiction
    intro h4
    exact hb ⟨i, hi, by omega⟩
theorem law24_small1 (e : Ev) : PC Go.Proofs.Tryz.prog 44 [aEv e] (ab (asg12 e)) := by
  refine PC.enter 7 [.tmp 2] [1] Go.Proofs.Tryz.func44 rfl rfl rfl rfl rfl (by simp) (AWp.of ?_); simp only [go_sem]
  repeat (first | ((with_reducible refine AWp.ofC ?_ ?_); (focus exact rfl); simp only [go_sem]) | ((with_reducible refine an ?_ ?_); focus exact Au))
  refine ret_eq ?_; simp only [go_sem]
  rfl
theorem smW_in (ps : List Pr) : ∀ k, -9223372036854775808 ≤ smW ps k ∧ smW ps k ≤ 9223372036854775807
  | 0 => by show -9223372036854775808 ≤ (0 : Int) ∧ (0 : Int) ≤ 9223372036854775807; omega
  | k + 1 => by
    show -9223372036854775808 ≤ addW (smW ps k) (nev ps k) ∧ addW (smW ps k) (nev ps k) ≤ 9223372036854775807
    unfold addW
    rw [IntKind.wrap_i64]
    omega
theorem law24_small (ps : List Pr) (hl : ∀ p ∈ ps, p.evs.length ≤ 9223372036854775807) (m : Int) : PC Go.Proofs.Tryz.prog 10 [aTr ps, ai m] (ab (smF ps m)) := by
  by_cases h10 : ps.length ≤ 10
  · have h10i : ¬ (10 : Int) < (ps.length : Int) := by omega
    have hsf : smF ps m = (ps.all smP && decide (smW ps ps.length ≤ m)) := by unfold smF; rw [decide_eq_true h10]; rfl
    refine PC.enter 37 [.tmp 4] [2, 7] Go.Proofs.Tryz.func10 rfl rfl rfl rfl rfl (by simp) (AWp.of ?_); simp only [go_sem]
    repeat (first | ((with_reducible refine AWp.ofC ?_ ?_); (focus exact rfl); simp only [go_sem, h10i]) | ((with_reducible refine an ?_ ?_); focus exact Au))
    refine AWp.range1' ps.length [5] [1, 13, 14] (fun k vs L => L = [] ∧ vs = [ai (smW ps k)] ∧ ∀ (j : Nat) (hj : j < ps.length), j < k → smP ps[j] = true) (by omega) rfl rfl rfl ⟨rfl, rfl, fun _ _ h => by omega⟩ ?_ ?_
    · rintro k vs L hk - ⟨rfl, rfl, hI⟩
      have hgp := getD_map (f := aPr) hk
      have hfp : smP ps[k] = !(decide (12 < (ps[k].vars.length : Int)) || ps[k].evs.any asg12) := rfl
      have hsw : smW ps (k + 1) = addW (smW ps k) ps[k].evs.length := by rw [← nev_get hk]; rfl
      have hin := smW_in ps k
      have hel := hl _ (List.getElem_mem hk)
      have hall : smP ps[k] = false → smF ps m = false := fun h => by
        rw [hsf, Bool.and_eq_false_iff]
        exact .inl (List.all_eq_false.2 ⟨_, List.getElem_mem hk, by rw [h]; decide⟩)
      have hI' : smP ps[k] = true → ∀ (j : Nat) (hj : j < ps.length), j < k + 1 → smP ps[j] = true := fun h j hj hjk => by
        by_cases e : j = k
        · subst e; exact h
        · exact hI j hj (by omega)
      have hcf := events_containsFuncB ps[k].evs hel (.v (.func (.func 44) #[] #[])) rfl asg12 fun e _ => (law24_small1 e).val
      clear hI
      generalize ps[k] = x at *
      simp only [go_sem]
      repeat ((with_reducible refine an ?_ ?_); focus exact As)
      refine AWp.of ?_; simp only [go_sem, hgp]
      repeat ((with_reducible refine an ?_ ?_); focus exact As)
      intros
      refine AWp.seq (AWp.regionW ?_)
      simp only [go_sem]
      rw [← hsw]
      generalize smW ps (k + 1) = z' at *
      generalize smW ps k = z at *
      repeat (first | ((with_reducible refine AWp.ofC ?_ ?_); (focus exact rfl); simp only [go_sem]) | ((with_reducible refine an ?_ ?_); focus exact Au))
      repeat ((with_reducible refine an ?_ ?_); focus exact As)
      refine GCall.use (ab (x.evs.any asg12)) (fun _ => ⟨At, (hcf).val.use ⟨rfl, rfl⟩⟩) ?_; simp only [go_sem]
      repeat (first | ((with_reducible refine AWp.ofC ?_ ?_); (focus exact rfl); simp only [go_sem]) | ((with_reducible refine an ?_ ?_); focus exact Au))
      refine ⟨fun h => ?_, fun h1 h2 => ?_⟩
      · have hx : smP x = false := by
          rw [hfp, Bool.not_eq_false']
          simpa using h
        rw [hall hx]
        repeat (first | ((with_reducible refine AWp.ofC ?_ ?_); (focus exact rfl); simp only [go_sem]) | ((with_reducible refine an ?_ ?_); focus exact Au))
        refine ret_eq ?_; simp only [go_sem]
      · have hx : smP x = true := by
          rw [hfp]
          simp [h2]
          omega
        repeat (first | ((with_reducible refine AWp.ofC ?_ ?_); (focus exact rfl); simp only [go_sem]) | ((with_reducible refine an ?_ ?_); focus exact Au))
        exact ⟨_, List.Sublist.refl _, rfl, hI' hx⟩
    · rintro vs L - ⟨rfl, rfl, hI⟩
      have hall : ps.all smP = true := List.all_eq_true.2 fun x hx => by
        obtain ⟨j, hj, rfl⟩ := List.getElem_of_mem hx
        exact hI j hj hj
      rw [hsf, hall]
      simp only [go_sem]
      repeat (first | ((with_reducible refine AWp.ofC ?_ ?_); (focus exact rfl); simp only [go_sem]) | ((with_reducible refine an ?_ ?_); focus exact Au))
      refine ret_eq ?_; simp only [go_sem]
  · have h10i : (10 : Int) < (ps.length : Int) := by omega
    have hsf : smF ps m = false := by unfold smF; rw [decide_eq_false h10]; rfl
    rw [hsf]
    refine PC.enter 37 [.tmp 4] [2, 7] Go.Proofs.Tryz.func10 rfl rfl rfl rfl rfl (by simp) (AWp.of ?_); simp only [go_sem]
    repeat (first | ((with_reducible refine AWp.ofC ?_ ?_); (focus exact rfl); simp only [go_sem, h10i]) | ((with_reducible refine an ?_ ?_); focus exact Au))
    refine ret_eq ?_; simp only [go_sem]
def longC (c : List Int) : Bool := decide (20 < (c.length : Int))
def shortF (l : List (List Int)) : Bool := decide ((l.length : Int) ≤ 100) && !l.any longC
end Go.AL
end
section
/- The reference of steps and of events that come next: More, Sent, Enabled, With, Lengths. No condition. -/
namespace Go.AL
open Go Go.RowKit
set_option maxRecDepth 4000
def enI (ps : List Pr) (c : List Int) (k : Nat) : List Int := (enF ps c k).map fun (p : Nat) => (p : Int)
end Go.AL
end
section
/- The reference of runs: step, Is, Events. No condition. -/
namespace Go.AL
open Go Go.RowKit
set_option maxRecDepth 4000
theorem chn_iff {ps : List Pr} : ∀ {r : List (List Int)} {a : List Int}, chnF ps a r = true ↔ ∀ j (h : j < r.length), isF ps r[j] = true ∧ 0 ≤ stepF ((a :: r)[j]'(by rw [List.length_cons]; omega)) r[j]
  | [], a => ⟨fun _ j h => absurd h (by simp), fun _ => rfl⟩
  | b :: r, a => by
    have e : chnF ps a (b :: r) = ((isF ps b && decide (0 ≤ stepF a b)) && chnF ps b r) := rfl
    rw [e, Bool.and_eq_true, Bool.and_eq_true, decide_eq_true_eq, chn_iff]
    constructor
    · rintro ⟨h1, h2⟩ j hj
      cases j with
      | zero => exact h1
      | succ j => exact h2 j (by simpa using hj)
    · intro h
      exact ⟨h 0 (by simp), fun j hj => h (j + 1) (by simpa using hj)⟩
end Go.AL
end
section
/- The reference of runs: Events, Of. No condition. -/
namespace Go.AL
open Go Go.RowKit
set_option maxRecDepth 4000
end Go.AL
end
section
/- The reference of runs: Of. No condition. -/
namespace Go.AL
open Go Go.RowKit
set_option maxRecDepth 4000
def ofL (ps : List Pr) (l : List Eid) : List (List Int) := match ofR ps (zeroC ps) l with | none => [] | some R => zeroC ps :: R
end Go.AL
end
section
/- The reference of runs: complete, First, Through. No condition. -/
namespace Go.AL
open Go Go.RowKit
set_option maxRecDepth 4000
theorem valid_off {ps : List Pr} (hv : validF ps = true) : off ps ps.length ≤ 512 := by
  have h : ∀ k, k ≤ ps.length → off ps k ≤ 64 * k := fun k => by
    induction k with
    | zero => intro _; simp [off]
    | succ k ih =>
      intro hk
      have h1 := off_succ (show k < ps.length by omega)
      have h2 := ih (by omega)
      have h3 : ps[k].evs.length ≤ 64 := by
        apply Classical.byContradiction
        intro h4
        exact procF_evs (show k < ps.length by omega) (by omega) (procF_of_valid hv (by omega))
      omega
  have := h ps.length (Nat.le_refl _)
  have := (valid_len hv).2
  omega
def lessB (c to : List Int) (x : Int) : Bool := decide (cAt c x < cAt to x)
end Go.AL
end
section
/- Runs of traces that are not valid, however large; the law RunLeast. No condition. -/
namespace Go.AL
open Go Go.RowKit
set_option maxRecDepth 4000
section
variable {ps : List Pr} (hva : PC Go.Proofs.Tryz.prog 45 [aTr ps] (ab false))
include hva
end
/-- What is known of a trace that the laws' bounds let pass. -/
structure Vd (ps : List Pr) : Prop where
  val : PC Go.Proofs.Tryz.prog 45 [aTr ps] (ab (validF ps))
  rval : PC Go.Proofs.Tryz.prog 12 [aTr ps] (ab (validF ps))
  sm : validF ps = true → Sm ps
  big : Sm ps ∨ validF ps = false
theorem vd_of {ps : List Pr} {m : Int} (h : smF ps m = true) : Vd ps := by
  rcases smF_cases h with h | ⟨h, hb⟩
  · exact ⟨trace_Valid ps h, ref12_Valid ps h, fun _ => h, .inl h⟩
  · exact ⟨trace_ValidB ps h hb, ref12_ValidB ps h hb, fun hv => absurd hv (by rw [valid_bad hb]; simp), .inr (valid_bad hb)⟩
end Go.AL
end
