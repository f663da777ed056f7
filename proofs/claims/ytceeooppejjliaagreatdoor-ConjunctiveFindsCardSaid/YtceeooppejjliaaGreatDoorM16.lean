/- Texts of this claim's proof: WEy, WOg, WFa, WFb, WGp, WGa. No condition. -/
import Derived.Test.YtceeooppejjliaaGreatDoorM15
import Derived.Test.YtceeooppejjliaaGreatDoorM12
import Derived.Test.YtceeooppejjliaaGreatDoorM10
section
/- The reference of layer 37: steps of elimination. No condition. -/
namespace Go.AL
open Go Go.RowKit
set_option maxRecDepth 4000
theorem run_inv {E : Elim} {now fin : Nat → Nat} {st : List Stp} {l : Bool} {p : Nat} (h : RunR E now st fin l) (hp : stepP E now = some p) : (E.top p < goF E now p ∧ st = [(p, now p, goF E now p - 1)] ∧ fin = updN now p (goF E now p) ∧ l = true) ∨ (goF E now p ≤ E.top p ∧ ∃ st', st = (p, now p, goF E now p - 1) :: st' ∧ RunR E (updN now p (goF E now p)) st' fin l) := by
  cases h with
  | stop h => rw [h] at hp; cases hp
  | lost h hl => rw [h] at hp; cases hp; exact .inl ⟨hl, rfl, rfl, rfl⟩
  | go h hl hr => rw [h] at hp; cases hp; exact .inr ⟨hl, _, rfl, hr⟩
theorem run_none {E : Elim} {now fin : Nat → Nat} {st : List Stp} {l : Bool} (h : RunR E now st fin l) (hp : stepP E now = none) : st = [] ∧ fin = now ∧ l = false := by
  cases h with
  | stop h => exact ⟨rfl, rfl, rfl⟩
  | lost h hl => rw [h] at hp; cases hp
  | go h hl hr => rw [h] at hp; cases hp
theorem ref37_Steps (ps : List Pr) (hs : Sm ps) (ts : List Pd) (hz : ∀ t ∈ ts, szF t ≤ 1000000) (htl : ts.length ≤ 1000000) (hf : conF ps ts = 0) :
    PC Go.Proofs.Tryz.prog 35 [aTr ps, .sl 6 (ts.map aPd)] (.tup [.sl 3 ((stepsF (elimOf ps ts)).map aStp), .sl 1 (dnA ps.length (finF (elimOf ps ts))), ab (lostF (elimOf ps ts))]) := by
  have hl := hs.procs
  have hE := elim_sm hs ts
  have hrun := run_spec (elimOf ps ts)
  have hexc := fun now hI p k hp hk => ref37_Excluded ps hs ts hz htl hf now hI p k hp hk
  have hEn : (elimOf ps ts).n = ps.length := rfl
  have htop : ∀ p (hp : p < ps.length), (elimOf ps ts).top p = ps[p].evs.length := fun p hp => nev_get hp
  generalize elimOf ps ts = E at *
  generalize stepsF E = st at *
  generalize finF E = fin at *
  generalize lostF E = lo at *
  have hroom : roomE E (fun _ => 0) ≤ E.n * 1000001 := totS_le _ fun q hq => by have := hE.top q; omega
  refine PC.enter 88 [.tmp 4, .tmp 5, .tmp 6] [2, 71] Go.Proofs.Tryz.func35 rfl rfl rfl rfl rfl (by simp) (AWp.of ?_); simp only [go_sem]
  repeat (first | ((with_reducible refine AWp.ofC ?_ ?_); (focus exact rfl); simp only [go_sem]) | ((with_reducible refine an ?_ ?_); focus exact Au))
  repeat ((with_reducible refine an ?_ ?_); focus exact As)
  intro b7
  repeat ((with_reducible refine an ?_ ?_); focus exact As)
  refine AWp.of ?_; simp only [go_sem]
  rw [show List.replicate ps.length (ai 0) = dnA ps.length (fun _ => 0) by unfold dnA; apply List.ext_getElem (by simp); intro i h1 h2; simp]
  refine AWp.block (AWp.loopN [8] [1, 2, 7] (fun m vs L => ∃ (f : Nat → Nat) (acc st' : List Stp) (v : AV) (Lq : AHeap), vs = [v] ∧ L.Perm ((b7, .row 3 1 (dnA ps.length f) ps.length) :: Lq) ∧ AppSt 77 3 (acc.map aStp) v Lq ∧ (∀ x ∈ Lq, x.1 ≠ b7) ∧ acc ++ st' = st ∧ InE E f ∧ RunR E f st' fin lo ∧ m = roomE E f ∧ acc.length + roomE E f ≤ roomE E fun _ => 0) (roomE E fun _ => 0) ?_ ?_)
  · exact ⟨_, [], st, anil, [], rfl, .refl _, .nil, by simp, rfl, inE_zero E, hrun, rfl, by simp⟩
  · rintro m vs L - ⟨f, acc, st', v, Lq, rfl, hP, hA, hq, hacc, hI, hR, rfl, hrm⟩
    refine AWp.perm hP ?_
    have hvw : ∀ xs : List AV, Vws ((b7, .row 3 1 (dnA ps.length f) ps.length) :: Lq) (aTr ps :: .sl 6 (ts.map aPd) :: .ls b7 1 0 ps.length ps.length :: xs) (aTr ps :: .sl 6 (ts.map aPd) :: .sl 1 (dnA ps.length f) :: xs) := fun xs => Vws.cons (.refl _) (Vws.cons (.refl _) (Vws.cons (Vw.ofLs (t := 3) (cap := ps.length) (by simp only [lk, if_true]) (dnA_length _ _).symm) (Vws.refl _)))
    simp only [go_sem]
    repeat (first | ((with_reducible refine AWp.ofC ?_ ?_); (focus exact rfl); simp only [go_sem]) | ((with_reducible refine an ?_ ?_); focus exact Au))
    refine AWp.seq (AWp.block (AWp.loopN [9] [1, 2, 7, 8] (fun m vs L => L = (b7, .row 3 1 (dnA ps.length f) ps.length) :: Lq ∧ ∃ p : Nat, p ≤ ps.length ∧ m = ps.length - p ∧ vs = [ai p] ∧ ∀ q, q < p → exB E f q (f q) = false) ps.length ?_ ?_))
    · exact ⟨rfl, 0, by omega, rfl, rfl, fun q hq => by omega⟩
    rintro m vs L - ⟨rfl, p, hp, rfl, rfl, hJ⟩
    by_cases hpn : p < ps.length
    · have gn := dnA_get hpn f
      have hfp : f p ≤ ps[p].evs.length := by have := hI p (by omega); rw [htop p hpn] at this; exact this
      have hx := hexc f hI p (f p) hpn hfp
      have hel := hs.evs _ (List.getElem_mem hpn)
      have hgp := getD_map (f := aPr) hpn
      have hti : (p : Int) < ps.length := by omega
      have hne : ¬ (p : Int) = ps.length := by omega
      simp only [go_sem]
      refine AWp.seq (AWp.seq ?_)
      refine AWp.read mixed [0, 1, 2, 3, 4, 5, 6, 7, 8, 9, 10, 11, 12, 13, 14, 15] (by kernel_rfl) ?_; simp only [go_sem, gn, dnA_length, hti]
      repeat ((with_reducible refine an ?_ ?_); focus exact As)
      refine GCall.use (ab (exB E f p (f p))) ?_ ?_
      · intro g; exact ⟨At, (PC.view (hvw _) hx (Own.v _) ⟨rfl, rfl⟩).val⟩
      simp only [go_sem]
      repeat ((with_reducible refine an ?_ ?_); focus exact As)
      cases hb : exB E f p (f p) with
      | false =>
        simp only [go_sem]
        repeat (first | ((with_reducible refine AWp.ofC ?_ ?_); (focus exact rfl); simp only [go_sem]) | ((with_reducible refine an ?_ ?_); focus exact Au))
        refine ⟨_, List.Sublist.refl _, _, by omega, rfl, p + 1, by omega, rfl, by rw [show ((p + 1 : Nat) : Int) = (p : Int) + 1 by omega], fun q hq => ?_⟩
        by_cases e : q = p
        · subst e; exact hb
        · exact hJ q (by omega)
      | true =>
        have hsp : stepP E f = some p := find_range_of (by omega) hb hJ
        obtain ⟨_, _, _, s4, s5, _, s7⟩ := step_inv hI hsp
        rw [htop p hpn] at s5
        have hexk := fun k (hk : k ≤ ps[p].evs.length) => hexc f hI p k hpn hk
        simp only [go_sem]
        repeat (first | ((with_reducible refine AWp.ofC ?_ ?_); (focus exact rfl); simp only [go_sem, hne, gn, dnA_length]) | ((with_reducible refine an ?_ ?_); focus exact Au))
        refine AWp.seq (AWp.block (AWp.loopN [10] [1, 2, 7, 8, 9] (fun m vs L => L = (b7, .row 3 1 (dnA ps.length f) ps.length) :: Lq ∧ ∃ k : Nat, k ≤ ps[p].evs.length + 1 ∧ m = ps[p].evs.length + 1 - k ∧ vs = [ai k] ∧ goF E f p = nextK (exB E f p) (E.top p) k) (ps[p].evs.length + 1 - f p) ?_ ?_))
        · exact ⟨rfl, f p, by omega, rfl, rfl, rfl⟩
        rintro m vs L - ⟨rfl, k, hk, rfl, rfl, hgo⟩
        simp only [go_sem]
        repeat (first | ((with_reducible refine AWp.ofC ?_ ?_); (focus exact rfl); simp only [go_sem, hgp]) | ((with_reducible refine an ?_ ?_); focus exact Au))
        refine GCall.use (ab (exB E f p k)) ?_ ?_
        · intro g; exact ⟨At, (PC.view (hvw _) (hexk k (by omega)) (Own.v _) ⟨rfl, rfl⟩).val⟩
        simp only [go_sem]
        repeat ((with_reducible refine an ?_ ?_); focus exact As)
        repeat (first | ((with_reducible refine AWp.ofC ?_ ?_); (focus exact rfl); simp only [go_sem]) | ((with_reducible refine an ?_ ?_); focus exact Au))
        refine ⟨fun h5 h6 => ?_, fun h5 => ?_⟩
        · repeat (first | ((with_reducible refine AWp.ofC ?_ ?_); (focus exact rfl); simp only [go_sem]) | ((with_reducible refine an ?_ ?_); focus exact Au))
          refine ⟨_, List.Sublist.refl _, _, by omega, rfl, k + 1, by omega, rfl, by rw [show ((k + 1 : Nat) : Int) = (k : Int) + 1 by omega], ?_⟩
          rw [hgo, nextK_hit (by rw [htop p hpn]; omega) h6]
        · have hgk : goF E f p = k := by
            rw [hgo, nextK_stop]
            rintro ⟨h7, h8⟩
            rw [htop p hpn] at h7
            have := h5 (by omega)
            rw [h8] at this; cases this
          have hin := run_inv hR hsp
          rw [hgk] at s4 s5 s7 hin
          have hac : acc.length ≤ 10000010000000 := by
            have : E.n * 1000001 ≤ 1000000 * 1000001 := Nat.mul_le_mul_right _ (by omega)
            omega
          have hkc : ((k - 1 : Nat) : Int) = (k : Int) - 1 := by omega
          have hset : (dnA ps.length f).set p (ai k) = dnA ps.length (updN f p k) := dnA_set (by rw [updN_self]) fun q hq => updN_ne hq
          have hacl : (acc.map aStp).length = acc.length := List.length_map _
          have hone : [(p, f p, k - 1)].map aStp = [.agg [ai p, ai (f p), ai ((k : Int) - 1)]] := by rw [← hkc]; rfl
          have hfo := hA.fo
          have hap : (acc ++ [(p, f p, k - 1)]).map aStp = acc.map aStp ++ [.agg [ai p, ai (f p), ai ((k : Int) - 1)]] := by rw [List.map_append, hone]
          have hgo2 : E.top p = ps[p].evs.length := htop p hpn
          rcases hin with ⟨i1, rfl, rfl, rfl⟩ | ⟨i1, st2, rfl, i2⟩
          · have hgt : (ps[p].evs.length : Int) < k := by omega
            subst hacc
            rw [hap]
            generalize hys : acc.map aStp = ys at *
            rcases hA.inv with ⟨e3, rfl, rfl⟩ | ⟨bq, cap, rfl, rfl⟩
            · repeat (first | ((with_reducible refine AWp.ofC ?_ ?_); (focus exact rfl); simp only [go_sem, gn, dnA_length]) | ((with_reducible refine an ?_ ?_); focus exact Au))
              intro b' cap' g8 _
              have n1 : ¬ b7 = b' := by omega
              have n2 : ¬ b' = b7 := by omega
              repeat (first | ((with_reducible refine AWp.ofC ?_ ?_); (focus exact rfl); simp only [go_sem, gn, dnA_length, hgp, hgt, n1, hset]) | ((with_reducible refine an ?_ ?_); focus exact Au))
              refine ret_view [true, true] ?_; simp only [go_sem]
              rw [e3]
              exact .mkTup (Vws.cons (Vw.ofLs (if_pos rfl) rfl) (Vws.cons (Vw.ofLs (t := 3) (cap := ps.length) (by simp only [lk, n1, if_false, if_true]) (dnA_length _ _).symm) (Vws.refl _)))
            · have nq : ¬ bq = b7 := hq (bq, .row 77 3 ys cap) (by simp)
              have nq' : ¬ b7 = bq := fun e => nq e.symm
              repeat (first | ((with_reducible refine AWp.ofC ?_ ?_); (focus exact rfl); simp only [go_sem, gn, dnA_length, nq, nq']) | ((with_reducible refine an ?_ ?_); focus exact Au))
              intro b' cap' g8 _
              have n2 : ¬ b' = b7 := fun e => g8 e.symm
              repeat (first | ((with_reducible refine AWp.ofC ?_ ?_); (focus exact rfl); simp only [go_sem, gn, dnA_length, hgp, hgt, g8, hset]) | ((with_reducible refine an ?_ ?_); focus exact Au))
              refine ret_view [true, true] ?_; simp only [go_sem]
              exact .mkTup (Vws.cons (Vw.ofLs (if_pos rfl) (by simp)) (Vws.cons (Vw.ofLs (t := 3) (cap := ps.length) (by simp only [lk, g8, if_false, if_true]) (dnA_length _ _).symm) (Vws.refl _)))
          · have hgt : ¬ (ps[p].evs.length : Int) < k := by omega
            have hI' : InE E (updN f p k) := fun q hq => by
              by_cases e : q = p
              · subst e; rw [updN_self]; exact i1
              · rw [updN_ne e]; exact hI q hq
            have hacc' : (acc ++ [(p, f p, k - 1)]) ++ st2 = st := by rw [List.append_assoc]; exact hacc
            have hlen2 : (acc ++ [(p, f p, k - 1)]).length = acc.length + 1 := by simp
            generalize acc ++ [(p, f p, k - 1)] = acc2 at *
            generalize hys : acc.map aStp = ys at *
            rcases hA.inv with ⟨e3, rfl, rfl⟩ | ⟨bq, cap, rfl, rfl⟩
            · repeat (first | ((with_reducible refine AWp.ofC ?_ ?_); (focus exact rfl); simp only [go_sem, gn, dnA_length]) | ((with_reducible refine an ?_ ?_); focus exact Au))
              intro b' cap' g8 _
              have n1 : ¬ b7 = b' := by omega
              have n2 : ¬ b' = b7 := by omega
              repeat (first | ((with_reducible refine AWp.ofC ?_ ?_); (focus exact rfl); simp only [go_sem, gn, dnA_length, hgp, hgt, n1, hset]) | ((with_reducible refine an ?_ ?_); focus exact Au))
              refine ⟨_, List.Sublist.refl _, _, s7, updN f p k, acc2, st2, _, [(b', .row 77 3 [.agg [ai p, ai (f p), ai ((k : Int) - 1)]] cap')], rfl, .swap _ _ _, ?_, fun x hx => ?_, hacc', hI', i2, rfl, by rw [hlen2]; omega⟩
              · rw [hap, e3]
                exact .row _ _ _
              · simp only [List.mem_singleton] at hx
                subst hx
                exact n2
            · have nq : ¬ bq = b7 := hq (bq, .row 77 3 ys cap) (by simp)
              have nq' : ¬ b7 = bq := fun e => nq e.symm
              repeat (first | ((with_reducible refine AWp.ofC ?_ ?_); (focus exact rfl); simp only [go_sem, gn, dnA_length, nq, nq']) | ((with_reducible refine an ?_ ?_); focus exact Au))
              intro b' cap' g8 _
              have n2 : ¬ b' = b7 := fun e => g8 e.symm
              repeat (first | ((with_reducible refine AWp.ofC ?_ ?_); (focus exact rfl); simp only [go_sem, gn, dnA_length, hgp, hgt, g8, hset]) | ((with_reducible refine an ?_ ?_); focus exact Au))
              refine ⟨_, List.Sublist.refl _, _, s7, updN f p k, acc2, st2, _, [(b', .row 77 3 (ys ++ [.agg [ai p, ai (f p), ai ((k : Int) - 1)]]) cap')], rfl, .swap _ _ _, ?_, fun x hx => ?_, hacc', hI', i2, rfl, by rw [hlen2]; omega⟩
              · rw [hap]
                have := AppSt.row (t := 77) (k := 3) b' (ys ++ [.agg [ai p, ai (f p), ai ((k : Int) - 1)]]) cap'
                simpa using this
              · simp only [List.mem_singleton] at hx
                subst hx
                exact n2
    · have hpe : p = ps.length := by omega
      subst hpe
      have hsn : stepP E f = none := find_range_no fun q hq => hJ q (by omega)
      obtain ⟨rfl, rfl, rfl⟩ := run_none hR hsn
      rw [List.append_nil] at hacc
      subst hacc
      have hni : ¬ (ps.length : Int) < ps.length := by omega
      generalize hys : acc.map aStp = ys at *
      rcases hA.inv with ⟨e3, rfl, rfl⟩ | ⟨bq, cap, rfl, rfl⟩
      · simp only [go_sem]
        refine AWp.seq (AWp.seq ?_)
        refine AWp.read mixed [0, 1, 2, 3, 4, 5, 6, 7, 8, 9, 10, 11, 12, 13, 14, 15] (by kernel_rfl) ?_; simp only [go_sem, dnA_length, hni]
        refine GCall.use (ab false) (fun g => g.elim) ?_
        simp only [go_sem]
        repeat (first | ((with_reducible refine AWp.ofC ?_ ?_); (focus exact rfl); simp only [go_sem]) | ((with_reducible refine an ?_ ?_); focus exact Au))
        refine ret_view [true] ?_; simp only [go_sem]
        rw [e3]
        exact .mkTup (Vws.cons (.nil 3) (Vws.cons (Vw.ofLs (if_pos rfl) (dnA_length _ _).symm) (Vws.refl _)))
      · have nq : ¬ bq = b7 := hq (bq, .row 77 3 ys cap) (by simp)
        have nq' : ¬ b7 = bq := fun e => nq e.symm
        simp only [go_sem]
        refine AWp.seq (AWp.seq ?_)
        refine AWp.read mixed [0, 1, 2, 3, 4, 5, 6, 7, 8, 9, 10, 11, 12, 13, 14, 15] (by kernel_rfl) ?_; simp only [go_sem, dnA_length, hni]
        refine GCall.use (ab false) (fun g => g.elim) ?_
        simp only [go_sem]
        repeat (first | ((with_reducible refine AWp.ofC ?_ ?_); (focus exact rfl); simp only [go_sem]) | ((with_reducible refine an ?_ ?_); focus exact Au))
        refine ret_view [true, true] ?_; simp only [go_sem]
        exact .mkTup (Vws.cons (Vw.ofLs (t := 77) (cap := cap) (by simp only [lk, nq, if_false, if_true]) rfl) (Vws.cons (Vw.ofLs (if_pos rfl) (dnA_length _ _).symm) (Vws.refl _)))
theorem conj_Steps (ps : List Pr) (hs : Sm ps) (ts : List Pd) (hz : ∀ t ∈ ts, szF t ≤ 1000000) (htl : ts.length ≤ 1000000) : PC Go.Proofs.Tryz.prog 32 [aTr ps, .sl 6 (ts.map aPd)] (if conF ps ts = 0 then .tup [.sl 3 ((stepsF (elimOf ps ts)).map aStp), ai 0] else .tup [.sl 3 [], ai (conF ps ts)]) := by
  have h1 := conj_start ps hs ts hz htl
  have hE := elim_sm hs ts
  unfold startK at h1
  have hrun := run_spec (elimOf ps ts)
  have hst := fun bb bn hb => board_steps (elimOf ps ts) hE (fun _ => 0) (finF (elimOf ps ts)) (inE_zero _) (stepsF (elimOf ps ts)) (lostF (elimOf ps ts)) hrun bb bn hb
  generalize elimOf ps ts = E at *
  generalize conF ps ts = C at *
  generalize stepsF E = st at *
  generalize finF E = fin at *
  generalize lostF E = lo at *
  refine PC.enter 19 [.tmp 4, .tmp 5] [2] Go.Proofs.Tryz.func32 rfl rfl rfl rfl rfl (by simp) (AWp.of ?_); simp only [go_sem]
  repeat (first | ((with_reducible refine AWp.ofC ?_ ?_); (focus exact rfl); simp only [go_sem]) | ((with_reducible refine an ?_ ?_); focus exact Au))
  refine h1.val.mono ?_
  rintro r L1 (⟨rfl, bb, bn, hb, rfl, rfl⟩ | ⟨hC, rfl, rfl⟩)
  · (try rw [if_pos rfl])
    simp only [go_sem]
    repeat (first | ((with_reducible refine AWp.ofC ?_ ?_); (focus exact rfl); simp only [go_sem]) | ((with_reducible refine an ?_ ?_); focus exact Au))
    refine MVal.pass (Lf := []) (Li := boardL E (fun _ => 0) bb bn) (Lr := []) (by simp) (Vws.refl _) (hst bb bn hb).val ?_
    rintro r L1 ⟨Lq, hA, rfl, hq⟩
    refine ⟨_, .refl _, ?_⟩
    have hfo := hA.fo
    rcases hA.inv with ⟨e1, rfl, rfl⟩ | ⟨bq, cap, rfl, rfl⟩
    · simp only [go_sem, List.nil_append]
      repeat (first | ((with_reducible refine AWp.ofC ?_ ?_); (focus exact rfl); simp only [go_sem]) | ((with_reducible refine an ?_ ?_); focus exact Au))
      refine ret_view [] ?_; simp only [go_sem]
      rw [e1]
      exact .mkTup (Vws.cons (.nil 3) (Vws.refl _))
    · simp only [go_sem, List.cons_append, List.nil_append]
      repeat (first | ((with_reducible refine AWp.ofC ?_ ?_); (focus exact rfl); simp only [go_sem]) | ((with_reducible refine an ?_ ?_); focus exact Au))
      refine ret_view [true] ?_; simp only [go_sem]
      exact .mkTup (Vws.cons (Vw.ofLs (if_pos rfl) (List.length_map _).symm) (Vws.refl _))
  · (try rw [if_neg hC])
    simp only [go_sem]
    repeat (first | ((with_reducible refine AWp.ofC ?_ ?_); (focus exact rfl); simp only [go_sem, hC]) | ((with_reducible refine an ?_ ?_); focus exact Au))
    refine ret_view [] ?_; simp only [go_sem]
    exact .mkTup (Vws.cons (.nil 3) (Vws.refl _))
theorem ref37_Possibly (ps : List Pr) (hs : Sm ps) (ts : List Pd) (hz : ∀ t ∈ ts, szF t ≤ 1000000) (htl : ts.length ≤ 1000000) (hf : conF ps ts = 0) : PC Go.Proofs.Tryz.prog 37 [aTr ps, .sl 6 (ts.map aPd)] (aAns (ansOf (elimOf ps ts))) := by
  have h1 := ref37_Steps ps hs ts hz htl hf
  have hEn : (elimOf ps ts).n = ps.length := rfl
  unfold ansOf
  rw [hEn]
  generalize elimOf ps ts = E at *
  generalize stepsF E = st at *
  generalize finF E = fin at *
  generalize lostF E = lo at *
  cases lo with
  | true =>
    rw [if_pos rfl]
    refine PC.enter 20 [.cell 4 52] [2] Go.Proofs.Tryz.func37 rfl rfl rfl rfl rfl (by simp) (AWp.of ?_); simp only [go_sem]
    intro b4
    repeat (first | ((with_reducible refine AWp.ofC ?_ ?_); (focus exact rfl); simp only [go_sem]) | ((with_reducible refine an ?_ ?_); focus exact Au))
    repeat ((with_reducible refine an ?_ ?_); focus exact As)
    refine (h1).val.use ?_; simp only [go_sem]
    repeat (first | ((with_reducible refine AWp.ofC ?_ ?_); (focus exact rfl); simp only [go_sem]) | ((with_reducible refine an ?_ ?_); focus exact Au))
    refine ret_view [] ?_; simp only [go_sem]
    refine .mkAgg ?_
    refine Vws.cons (.refl _) (Vws.cons (.refl _) (Vws.cons (.refl _) (Vws.cons (.nil 1) (Vws.cons (.nil 1) (Vws.cons (.nil 1) (Vws.cons ?_ (Vws.refl _)))))))
    rw [aStp_I]
    exact .refl _
  | false =>
    rw [if_neg (by decide)]
    refine PC.enter 20 [.cell 4 52] [2] Go.Proofs.Tryz.func37 rfl rfl rfl rfl rfl (by simp) (AWp.of ?_); simp only [go_sem]
    intro b4
    repeat (first | ((with_reducible refine AWp.ofC ?_ ?_); (focus exact rfl); simp only [go_sem]) | ((with_reducible refine an ?_ ?_); focus exact Au))
    repeat ((with_reducible refine an ?_ ?_); focus exact As)
    refine (h1).val.use ?_; simp only [go_sem]
    repeat (first | ((with_reducible refine AWp.ofC ?_ ?_); (focus exact rfl); simp only [go_sem]) | ((with_reducible refine an ?_ ?_); focus exact Au))
    refine ret_view [] ?_; simp only [go_sem]
    refine .mkAgg ?_
    refine Vws.cons (.refl _) (Vws.cons (.refl _) (Vws.cons (.refl _) (Vws.cons ?_ (Vws.cons (.nil 1) (Vws.cons (.nil 1) (Vws.cons (.nil 3) (Vws.refl _)))))))
    rw [dnA_I]
    exact .refl _
end Go.AL
end
section
/- Opening counts: the packages cut and the reference of layer 22. No condition. -/
namespace Go.AL
open Go Go.RowKit
set_option maxRecDepth 4000
/-- The opened counts, in memory of one's own. -/
def openK (ps : List Pr) (c : List Int) (r : AV) (L : AHeap) : Prop := ∃ b cap, r = .tup [.ls b 1 0 ps.length cap, ai 0] ∧ L = [(b, .row 3 1 ((openF ps c).map ai) cap)]
theorem cut_Open1 (c : List Int) (s r : Eid) (b n cap : Nat) (hn : n = c.length) (h0 : 0 ≤ r.1) (h1 : r.1 < c.length) (h2 : -1000000 ≤ r.2) (h3 : r.2 ≤ 1000001) : MCalls Go.Proofs.Tryz.prog 144 [.ls b 1 0 n cap, aEid s, aEid r] [(b, .row 3 1 (c.map ai) cap)] fun _ L => L = [(b, .row 3 1 ((c.set r.1.toNat (r.2 - 1)).map ai) cap)] := by
  subst hn
  have hg := getD_cAt (c := c) h0 h1
  refine MCalls.enter' 13 [] [4, 5] Go.Proofs.Tryz.func144 rfl rfl rfl rfl rfl (by simp) (AWp.of ?_); simp only [go_sem]
  repeat (first | ((with_reducible refine AWp.ofC ?_ ?_); (focus exact rfl); simp only [go_sem, hg]) | ((with_reducible refine an ?_ ?_); focus exact Au))
  refine ret_own ?_
  simp only [go_sem]
  rw [List.map_set]
theorem cut_repairedO (ps : List Pr) (hs : Sm ps) (hv : validF ps = true) (c : List Int) (hc : c.length = ps.length) (hr : inRangeF ps c = true) :
    MCalls Go.Proofs.Tryz.prog 143 [aTr ps, aInts c, .v (.func (.func 144) #[] #[])] [] (openK ps c) := by
  unfold openK
  obtain ⟨hl1, hl8⟩ := valid_len hv
  have hs1 := cut_sized ps hs [c] (by simp)
  have e1 : sizedF ps [c] = true := by unfold sizedF; rw [hv]; simp [hc]
  rw [e1] at hs1
  have hs2 := cut_inRange ps hs c hc
  rw [hr] at hs2
  refine MCalls.enter' 40 [.tmp 6, .tmp 7] [3, 9, 10, 15] Go.Proofs.Tryz.func143 rfl rfl rfl rfl rfl (by simp) (AWp.of ?_); simp only [go_sem]
  repeat (first | ((with_reducible refine AWp.ofC ?_ ?_); (focus exact rfl); simp only [go_sem]) | ((with_reducible refine an ?_ ?_); focus exact Au))
  repeat ((with_reducible refine an ?_ ?_); focus exact As)
  refine (hs1).val.use ?_; simp only [go_sem]
  repeat (first | ((with_reducible refine AWp.ofC ?_ ?_); (focus exact rfl); simp only [go_sem]) | ((with_reducible refine an ?_ ?_); focus exact Au))
  repeat ((with_reducible refine an ?_ ?_); focus exact As)
  refine (hs2).val.use ?_; simp only [go_sem]
  repeat (first | ((with_reducible refine AWp.ofC ?_ ?_); (focus exact rfl); simp only [go_sem]) | ((with_reducible refine an ?_ ?_); focus exact Au))
  refine (ints_cloneO c (by omega)).val.mono ?_
  rintro r L hA
  rcases hA.inv with ⟨e1, rfl, rfl⟩ | ⟨b, cap, rfl, rfl⟩
  · have : c.length = 0 := by simpa using congrArg List.length e1
    omega
  simp only [go_sem, List.length_map]
  repeat ((with_reducible refine an ?_ ?_); focus exact As)
  refine AWp.of ?_; simp only [go_sem]
  refine AWp.loopN [] [2, 3, 8] (fun m vs L => ∃ d, d.length = ps.length ∧ inRangeF ps d = true ∧ openF ps d = openF ps c ∧ m = totC d ∧ L = [(b, .row 3 1 (d.map ai) cap)]) (totC c) ⟨c, hc, hr, rfl, rfl, rfl⟩ ?_
  rintro m vs L - ⟨d, hd, hdr, hde, rfl, rfl⟩
  have hm := cut_missing ps hs d hv hd hdr
  have ho := Own.miss ps d
  have hvw : Vws [(b, .row 3 1 (d.map ai) cap)] [aTr ps, .ls b 1 0 c.length cap] [aTr ps, aInts d] := Vws.cons (.refl _) (Vws.cons (Vw.ofLs (if_pos rfl) (by rw [List.length_map]; omega)) .nil)
  simp only [go_sem]
  repeat (first | ((with_reducible refine AWp.ofC ?_ ?_); (focus exact rfl); simp only [go_sem]) | ((with_reducible refine an ?_ ?_); focus exact Au))
  cases h : missF ps d with
  | none =>
    rw [openF_none h] at hde
    unfold aMiss at hm ho
    rw [h] at hm ho
    refine (PC.view hvw hm ho ?_).val
    simp only [go_sem]
    intro b9 g1 b10 g2 g3
    have n1 : ¬ b9 = b10 := by omega
    have n2 : ¬ b10 = b9 := by omega
    have n3 : ¬ b = b9 := by omega
    have n4 : ¬ b = b10 := by omega
    have n5 : ¬ b9 = b := by omega
    have n6 : ¬ b10 = b := by omega
    simp only [go_sem, n1, n6]
    repeat (first | ((with_reducible refine AWp.ofC ?_ ?_); (focus exact rfl); simp only [go_sem]) | ((with_reducible refine an ?_ ?_); focus exact Au))
    refine ret_own ?_
    simp only [go_sem]
    rw [← hde, hc]
    exact ⟨b, cap, rfl, rfl⟩
  | some x =>
    obtain ⟨a1, a2, a3⟩ := miss_prev hv hd hdr h
    have hst := openF_step hv hd hdr h
    obtain ⟨p, hp, i, hi, _, _, _, _, _, _, _, hx, _⟩ := miss_inv hv hd h
    have hel := hs.evs _ (List.getElem_mem hp)
    have hx1 : 0 ≤ x.2.1 ∧ x.2.1 < d.length ∧ -1000000 ≤ x.2.2 ∧ x.2.2 ≤ 1000001 := by rw [hx]; dsimp only; omega
    unfold aMiss at hm ho
    rw [h] at hm ho
    clear hx
    obtain ⟨s, r⟩ := x
    refine (PC.view hvw hm ho ?_).val
    simp only [go_sem]
    intro b9 g1 b10 g2 g3
    have n1 : ¬ b9 = b10 := by omega
    have n2 : ¬ b10 = b9 := by omega
    have n3 : ¬ b = b9 := by omega
    have n4 : ¬ b = b10 := by omega
    have n5 : ¬ b9 = b := by omega
    have n6 : ¬ b10 = b := by omega
    simp only [go_sem, n1, n6]
    repeat (first | ((with_reducible refine AWp.ofC ?_ ?_); (focus exact rfl); simp only [go_sem]) | ((with_reducible refine an ?_ ?_); focus exact Au))
    refine (cut_Open1 d s r b c.length cap (by omega) hx1.1 hx1.2.1 hx1.2.2.1 hx1.2.2.2).val.mono ?_
    rintro r L rfl
    simp only [go_sem]
    repeat (first | ((with_reducible refine AWp.ofC ?_ ?_); (focus exact rfl); simp only [go_sem]) | ((with_reducible refine an ?_ ?_); focus exact Au))
    exact ⟨_, List.Sublist.refl _, _, by omega, _, a1, a2, by rw [← hst, hde], rfl, rfl⟩
theorem cut_Open (ps : List Pr) (hs : Sm ps) (hv : validF ps = true) (c : List Int) (hc : c.length = ps.length) (hr : inRangeF ps c = true) :
    MCalls Go.Proofs.Tryz.prog 82 [aTr ps, aInts c] [] (openK ps c) := by
  have h := cut_repairedO ps hs hv c hc hr
  unfold openK at *
  refine MCalls.enter' 11 [.tmp 4, .tmp 5] [2] Go.Proofs.Tryz.func82 rfl rfl rfl rfl rfl (by simp) (AWp.of ?_); simp only [go_sem]
  repeat (first | ((with_reducible refine AWp.ofC ?_ ?_); (focus exact rfl); simp only [go_sem]) | ((with_reducible refine an ?_ ?_); focus exact Au))
  refine h.val.mono ?_
  rintro r L ⟨b, cap, rfl, rfl⟩
  simp only [go_sem]
  repeat (first | ((with_reducible refine AWp.ofC ?_ ?_); (focus exact rfl); simp only [go_sem]) | ((with_reducible refine an ?_ ?_); focus exact Au))
  refine ret_own ?_
  simp only [go_sem]
  exact ⟨b, cap, rfl, rfl⟩
theorem ref22_Lengths (ps : List Pr) (hs : Sm ps) : MCalls Go.Proofs.Tryz.prog 85 [aTr ps] [] fun r L => AppSt 3 1 ((ps.map fun x => (x.evs.length : Int)).map ai) r L := by
  have hl := hs.procs
  have hy : ∀ k, k ≤ ps.length → (((ps.take k).map fun x => (x.evs.length : Int)).map ai).length = k := fun k hk => by simp; omega
  have hys : ∀ k (hk : k < ps.length), ((ps.take (k + 1)).map fun x => (x.evs.length : Int)).map ai = ((ps.take k).map fun x => (x.evs.length : Int)).map ai ++ [ai (ps[k].evs.length : Int)] := fun k hk => by
    rw [List.take_add_one, List.getElem?_eq_getElem hk, List.map_append, List.map_append]; rfl
  refine MCalls.enter' 23 [.tmp 2] [1, 20] Go.Proofs.Tryz.func85 rfl rfl rfl rfl rfl (by simp) (AWp.of ?_); simp only [go_sem]
  repeat (first | ((with_reducible refine AWp.ofC ?_ ?_); (focus exact rfl); simp only [go_sem]) | ((with_reducible refine an ?_ ?_); focus exact Au))
  refine AWp.block (AWp.count 4 ps.length [3] [1] (fun k vs L => ∃ v, vs = [v] ∧ AppSt 3 1 (((ps.take k).map fun x => (x.evs.length : Int)).map ai) v L) rfl rfl ⟨anil, rfl, .nil⟩ ?_)
  rintro k vs L hk - ⟨v, rfl, hA⟩
  have hyl := hy k hk
  have hfo := hA.fo
  simp only [go_sem]
  by_cases hkn : k < ps.length
  · have hki : (k : Int) < ps.length := by omega
    have hgp := getD_map (f := aPr) hkn
    have hel := hs.evs _ (List.getElem_mem hkn)
    have hys := hys k hkn
    generalize hZ : ((ps.take k).map fun x => (x.evs.length : Int)).map ai = ys at *
    rcases hA.inv with ⟨e1, rfl, rfl⟩ | ⟨b, cap, rfl, rfl⟩
    · repeat (first | ((with_reducible refine AWp.ofC ?_ ?_); (focus exact rfl); simp only [go_sem, hki, hgp]) | ((with_reducible refine an ?_ ?_); focus exact Au))
      intro b' cap' _
      repeat (first | ((with_reducible refine AWp.ofC ?_ ?_); (focus exact rfl); simp only [go_sem]) | ((with_reducible refine an ?_ ?_); focus exact Au))
      refine ⟨_, List.Sublist.refl _, _, rfl, ?_⟩
      rw [hys, e1]
      exact .row _ _ _
    · repeat (first | ((with_reducible refine AWp.ofC ?_ ?_); (focus exact rfl); simp only [go_sem, hki, hgp]) | ((with_reducible refine an ?_ ?_); focus exact Au))
      intro b' cap' _
      repeat (first | ((with_reducible refine AWp.ofC ?_ ?_); (focus exact rfl); simp only [go_sem]) | ((with_reducible refine an ?_ ?_); focus exact Au))
      refine ⟨_, List.Sublist.refl _, _, rfl, ?_⟩
      rw [hys]
      have := AppSt.row (t := 3) (k := 1) b' (ys ++ [ai (ps[k].evs.length : Int)]) cap'
      simpa using this
  · have hki : ¬ (k : Int) < ps.length := by omega
    have hke : k = ps.length := by omega
    subst hke
    rw [List.take_length] at hA
    repeat (first | ((with_reducible refine AWp.ofC ?_ ?_); (focus exact rfl); simp only [go_sem, hki, hfo]) | ((with_reducible refine an ?_ ?_); focus exact Au))
    refine ret_own ?_
    simp only [go_sem]
    exact hA
def ropenK (ps : List Pr) (c : List Int) (r : AV) (L : AHeap) : Prop := ∃ b cap, r = .ls b 1 0 ps.length cap ∧ L = [(b, .row 3 1 ((openF ps c).map ai) cap)]
theorem ref22_Open0 (ps : List Pr) (hs : Sm ps) (hv : validF ps = true) (c : List Int) (hc : c.length = ps.length) (hr : inRangeF ps c = true)
    (hrec : ∀ x, missF ps c = some x → MCalls Go.Proofs.Tryz.prog 86 [aTr ps, aInts (c.set x.2.1.toNat (x.2.2 - 1))] [] (ropenK ps (c.set x.2.1.toNat (x.2.2 - 1)))) :
    MCalls Go.Proofs.Tryz.prog 86 [aTr ps, aInts c] [] (ropenK ps c) := by
  obtain ⟨hl1, hl8⟩ := valid_len hv
  have hl := hs.procs
  refine MCalls.enter' 39 [.tmp 4] [2] Go.Proofs.Tryz.func86 rfl rfl rfl rfl rfl (by simp) (AWp.of ?_); simp only [go_sem]
  repeat (first | ((with_reducible refine AWp.ofC ?_ ?_); (focus exact rfl); simp only [go_sem]) | ((with_reducible refine an ?_ ?_); focus exact Au))
  intro b0
  refine ⟨⟨by omega, by omega⟩, fun b cap hcap => ?_⟩
  have hvw : Vws [(b, .row 3 1 (c.map ai) cap)] [aTr ps, .ls b 1 0 c.length cap] [aTr ps, aInts c] := Vws.cons (.refl _) (Vws.cons (Vw.ofLs (if_pos rfl) (by rw [List.length_map])) .nil)
  repeat ((with_reducible refine an ?_ ?_); focus exact As)
  refine AWp.of ?_; simp only [go_sem]
  refine AWp.block (AWp.count 6 c.length [] [2, 5] (fun p vs L => L = [(b, .row 3 1 (c.map ai) cap)] ∧ ∀ (j : Nat) (y : Eid × Ev), j < off ps p → (evIds ps)[j]? = some y → badEv ps c y = false) rfl rfl ⟨rfl, by simp [off]⟩ ?_)
  rintro p vs L hp - ⟨rfl, hI⟩
  simp only [go_sem]
  repeat (first | ((with_reducible refine AWp.ofC ?_ ?_); (focus exact rfl); simp only [go_sem]) | ((with_reducible refine an ?_ ?_); focus exact Au))
  refine ⟨fun h1 => ?_, fun h1 => ?_⟩
  · have hpc : p < c.length := by omega
    have hpp : p < ps.length := by omega
    have hgP := getD_map (f := aPr) hpp
    have hgc := getD_map (f := ai) hpc
    have hel := hs.evs _ (List.getElem_mem hpp)
    obtain ⟨hr1, hr2⟩ := inRangeF_get hr hc hpp
    repeat (first | ((with_reducible refine AWp.ofC ?_ ?_); (focus exact rfl); simp only [go_sem]) | ((with_reducible refine an ?_ ?_); focus exact Au))
    refine AWp.block (AWp.count 7 c[p].toNat [] [2, 5, 6] (fun i vs L => L = [(b, .row 3 1 (c.map ai) cap)] ∧ ∀ (j : Nat) (y : Eid × Ev), j < off ps p + i → (evIds ps)[j]? = some y → badEv ps c y = false) rfl rfl ⟨rfl, hI⟩ ?_)
    rintro i vs L hi - ⟨rfl, hJ⟩
    simp only [go_sem]
    repeat (first | ((with_reducible refine AWp.ofC ?_ ?_); (focus exact rfl); simp only [go_sem, hgc]) | ((with_reducible refine an ?_ ?_); focus exact Au))
    refine ⟨fun h2 => ?_, fun h2 => ?_⟩
    · have hie : i < ps[p].evs.length := by omega
      have hge := getD_map (f := aEv) hie
      have hev := evIds_get hpp hie
      have hsn := ref22_Sent ps hs hv c hc p hpp i hie (by rw [cAt_nat hpc]; omega)
      repeat (first | ((with_reducible refine AWp.ofC ?_ ?_); (focus exact rfl); simp only [go_sem]) | ((with_reducible refine an ?_ ?_); focus exact Au))
      have hvw2 : Vws [(b, .row 3 1 (c.map ai) cap)] [aTr ps, .ls b 1 0 c.length cap, ai p, ai i] [aTr ps, aInts c, ai p, ai i] := Vws.cons (.refl _) (Vws.cons (Vw.ofLs (if_pos rfl) (by rw [List.length_map])) (Vws.refl _))
      refine (PC.view hvw2 hsn (Own.v _) ?_).val
      simp only [go_sem]
      cases hb : badEv ps c (((p : Int), (i : Int) + 1), ps[p].evs[i]) with
      | false =>
        repeat (first | ((with_reducible refine AWp.ofC ?_ ?_); (focus exact rfl); simp only [go_sem]) | ((with_reducible refine an ?_ ?_); focus exact Au))
        refine ⟨_, List.Sublist.refl _, rfl, fun j y hj hy => ?_⟩
        by_cases e : j = off ps p + i
        · subst e; rw [hev] at hy; cases hy; exact hb
        · exact hJ j y (by omega) hy
      | true =>
        have hm := missF_hit hev hJ hb
        have hrec := hrec _ hm
        have hst := openF_step hv hc hr hm
        have e : ((i : Int) + 1 - 1) = i := by omega
        dsimp only at hrec hst
        simp only [Int.toNat_natCast, e] at hrec hst
        have hk2 : ropenK ps (c.set p (i : Int)) = ropenK ps c := by unfold ropenK; rw [hst]
        rw [hk2] at hrec
        repeat (first | ((with_reducible refine AWp.ofC ?_ ?_); (focus exact rfl); simp only [go_sem, hgc]) | ((with_reducible refine an ?_ ?_); focus exact Au))
        rw [← List.map_set]
        have hvw3 : Vws [(b, .row 3 1 ((c.set p (i : Int)).map ai) cap)] [aTr ps, .ls b 1 0 c.length cap] [aTr ps, aInts (c.set p (i : Int))] := Vws.cons (.refl _) (Vws.cons (Vw.ofLs (if_pos rfl) (by rw [List.length_map, List.length_set])) .nil)
        refine MVal.pass (Lf := [(b, .row 3 1 ((c.set p (i : Int)).map ai) cap)]) (Li := []) (Lr := []) (.refl _) hvw3 hrec.val ?_
        rintro r L1 ⟨b2, cap2, rfl, rfl⟩
        refine ⟨_, .refl _, ?_⟩
        simp only [go_sem, List.append_nil]
        repeat (first | ((with_reducible refine AWp.ofC ?_ ?_); (focus exact rfl); simp only [go_sem]) | ((with_reducible refine an ?_ ?_); focus exact Au))
        refine ret_own ?_
        simp only [go_sem]
        exact ⟨b2, cap2, rfl, rfl⟩
    · repeat (first | ((with_reducible refine AWp.ofC ?_ ?_); (focus exact rfl); simp only [go_sem]) | ((with_reducible refine an ?_ ?_); focus exact Au))
      refine ⟨_, List.Sublist.refl _, rfl, fun j y hj hy => ?_⟩
      rw [off_succ hpp] at hj
      by_cases e : j < off ps p + i
      · exact hJ j y e hy
      · obtain ⟨i', hi'⟩ : ∃ i', j = off ps p + i' := ⟨j - off ps p, by omega⟩
        subst hi'
        have hie : i' < ps[p].evs.length := by omega
        rw [evIds_get hpp hie] at hy; cases hy
        simp only [badEv, cAt_nat hpc, decide_eq_false (show ¬ (i' : Int) + 1 ≤ c[p] by omega), Bool.and_false, Bool.false_and]
  · repeat (first | ((with_reducible refine AWp.ofC ?_ ?_); (focus exact rfl); simp only [go_sem]) | ((with_reducible refine an ?_ ?_); focus exact Au))
    refine ret_own ?_
    simp only [go_sem]
    have hm := missF_none (ps := ps) (c := c) (fun j y hy => hI j y (by
      have : p = ps.length := by omega
      rw [this, ← evIds_length]; exact (List.getElem?_eq_some_iff.1 hy).1) hy)
    unfold ropenK
    rw [openF_none hm, hc]
    exact ⟨b, cap, rfl, rfl⟩
theorem ref22_Open (ps : List Pr) (hs : Sm ps) (hv : validF ps = true) (c : List Int) (hc : c.length = ps.length) (hr : inRangeF ps c = true) :
    MCalls Go.Proofs.Tryz.prog 86 [aTr ps, aInts c] [] (ropenK ps c) :=
  miss_dni hv (M := fun c => MCalls Go.Proofs.Tryz.prog 86 [aTr ps, aInts c] [] (ropenK ps c)) (fun c hc hr h => ref22_Open0 ps hs hv c hc hr fun x hx => by rw [h] at hx; cases hx)
    (fun c hc hr x h hm => ref22_Open0 ps hs hv c hc hr fun y hy => by rw [h] at hy; cases hy; exact hm) c hc hr
end Go.AL
end
section
/- Lists of states: the package conjunctive. No condition. -/
namespace Go.AL
open Go Go.RowKit
set_option maxRecDepth 4000
/-- A place of a list of states that is out of range, or does not ascend. -/
def BadI (n : Nat) (x : List Int) (i : Nat) : Prop := x.getD i 0 < 0 ∨ (n : Int) < x.getD i 0 ∨ (0 < i ∧ x.getD i 0 ≤ x.getD (i - 1) 0)
open Classical in
noncomputable def listsF (ps : List Pr) (l : List (List Int)) : Int := if validF ps = true ∧ l.length = ps.length then (if ∃ p i, p < l.length ∧ i < (l.getD p []).length ∧ BadI (nev ps p) (l.getD p []) i then 2 else 0) else 1
end Go.AL
end
section
/- The least cut whose counts are in lists: the package conjunctive. No condition. -/
namespace Go.AL
open Go Go.RowKit
set_option maxRecDepth 4000
/-- An elimination whose states are those of lists. -/
def LstOk (ps : List Pr) (l : List (List Int)) (E : Elim) : Prop := ∀ p (hp : p < l.length) (hpp : p < ps.length) k, k ≤ ps[p].evs.length → E.ok p k = decide ((k : Int) ∈ l[p])
def rowM (n : Nat) (x : List Int) : List AV := (List.range (n + 1)).map fun (k : Nat) => ab (decide ((k : Int) ∈ x))
noncomputable def aFirst (ps : List Pr) (l : List (List Int)) (E : Elim) : AV := if listsF ps l ≠ 0 then .tup [.sl 1 [], ai (listsF ps l)] else if lostF E = true then .tup [.sl 1 [], ai 7] else .tup [aInts (cutL E.n (finF E)), ai 0]
end Go.AL
end
section
/- The least cut whose counts are in lists, found by moving all that lag. Plain laws. No condition. -/
namespace Go.AL
open Go Go.RowKit
set_option maxRecDepth 4000
def nowF (l : List (List Int)) (at' : Nat → Nat) (q : Nat) : Int := (l.getD q []).getD (at' q) 0
def nowL (n : Nat) (l : List (List Int)) (at' : Nat → Nat) : List Int := (List.range n).map (nowF l at')
/-- What satisfies the lists lies at or behind the places. -/
def AtOk (ps : List Pr) (E : Elim) (l : List (List Int)) (a : Nat → Nat) : Prop := ∀ d, SatD ps E d → ∀ p, p < ps.length → ∃ i, a p ≤ i ∧ i < (l.getD p []).length ∧ (l.getD p []).getD i 0 = cAt d p
section
variable {ps : List Pr} {E : Elim} {l : List (List Int)} {a : Nat → Nat}
end
end Go.AL
end
section
/- Lists of states: the reference of layer 37. No condition. -/
namespace Go.AL
open Go Go.RowKit
set_option maxRecDepth 4000
def fillA (n : Nat) (f : Nat → Int) (p : Nat) : List AV := (List.range n).map fun q => ai (if q < p then f q else 0)
theorem fillA_len (n : Nat) (f : Nat → Int) (p : Nat) : (fillA n f p).length = n := by simp [fillA]
theorem fillA_zero (n : Nat) (f : Nat → Int) : List.replicate n (ai 0) = fillA n f 0 := by unfold fillA; apply List.ext_getElem (by simp); intro i h1 h2; simp
theorem fillA_set {n : Nat} {f : Nat → Int} {p : Nat} : (fillA n f p).set p (ai (f p)) = fillA n f (p + 1) := by
  unfold fillA
  rw [map_range_set]; congr 1; funext q
  by_cases e : q = p
  · rw [if_pos e, if_pos (by omega), e]
  · rw [if_neg e]
    by_cases e2 : q < p
    · rw [if_pos e2, if_pos (by omega)]
    · rw [if_neg e2, if_neg (by omega)]
theorem fillA_get {n : Nat} {f : Nat → Int} {p : Nat} (hp : p < n) : (fillA n f p).getD p .any = ai 0 := by
  have := map_range_getD hp (fun q => ai (if q < p then f q else 0))
  rw [if_neg (Nat.lt_irrefl p)] at this
  exact this
/-- Who lags moves on. -/
def mvF (a : Nat → Nat) (g : Nat → Bool) (p : Nat) : Nat → Nat := fun q => if q < p ∧ g q = true then a q + 1 else a q
end Go.AL
end
