/- Texts of this claim's proof: WFb, WFc, WEx, WXt, WGp. No condition. -/
import Derived.Test.YtceeooppejjliaaGreatDoorM15
import Derived.Test.YtceeooppejjliaaGreatDoorM12
import Derived.Test.YtceeooppejjliaaGreatDoorM11
import Derived.Test.YtceeooppejjliaaGreatDoorM13
section
/- The least cut whose counts are in lists: the package conjunctive. No condition. -/
namespace Go.AL
open Go Go.RowKit
set_option maxRecDepth 4000
/-- An elimination whose states are those of lists. -/
def LstOk (ps : List Pr) (l : List (List Int)) (E : Elim) : Prop := ∀ p (hp : p < l.length) (hpp : p < ps.length) k, k ≤ ps[p].evs.length → E.ok p k = decide ((k : Int) ∈ l[p])
theorem needT_eq {ps : List Pr} {E E' : Elim} (h : NeedOk ps E) (h' : NeedOk ps E') : needT E = needT E' := by
  unfold needT
  rw [h.n, h'.n]
  refine List.map_congr_left fun q hq => ?_
  have hq := List.mem_range.1 hq
  congr 1
  unfold needM
  rw [h.top q hq, h'.top q hq]
  refine List.map_congr_left fun m _ => ?_
  congr 1
  unfold needL
  rw [h.n, h'.n]
  refine List.map_congr_left fun p _ => ?_
  rw [h.need, h'.need]
def rowM (n : Nat) (x : List Int) : List AV := (List.range (n + 1)).map fun (k : Nat) => ab (decide ((k : Int) ∈ x))
theorem rowM_len (n : Nat) (x : List Int) : (rowM n x).length = n + 1 := by simp [rowM]
theorem rowM_nil (n : Nat) : rowM n [] = List.replicate (n + 1) (ab false) := by
  unfold rowM; apply List.ext_getElem (by simp); intro i h1 h2; simp
theorem rowM_set {n : Nat} {x : List Int} {i : Nat} (hi : i < x.length) (h0 : 0 ≤ x[i]) : (rowM n (x.take i)).set x[i].toNat (ab true) = rowM n (x.take (i + 1)) := by
  unfold rowM
  rw [map_range_set]
  congr 1
  funext k
  rw [List.take_add_one, List.getElem?_eq_getElem hi]
  by_cases e : k = x[i].toNat
  · rw [if_pos e, decide_eq_true]
    simp only [Option.toList_some, List.mem_append, List.mem_singleton]
    right; omega
  · rw [if_neg e]
    have hiff : ((k : Int) ∈ x.take i) ↔ ((k : Int) ∈ x.take i ++ (some x[i]).toList) := by
      simp only [Option.toList_some, List.mem_append, List.mem_singleton]
      constructor
      · exact .inl
      · rintro (h | h)
        · exact h
        · omega
    rw [decide_eq_decide.2 hiff]
noncomputable def aFirst (ps : List Pr) (l : List (List Int)) (E : Elim) : AV := if listsF ps l ≠ 0 then .tup [.sl 1 [], ai (listsF ps l)] else if lostF E = true then .tup [.sl 1 [], ai 7] else .tup [aInts (cutL E.n (finF E)), ai 0]
theorem conj_First (ps : List Pr) (hs : Sm ps) (l : List (List Int)) (hl : l.length ≤ 1000000) (hx : ∀ x ∈ l, x.length ≤ 1000000) (E : Elim) (hN : NeedOk ps E) (hE : SmE E) (hok : listsF ps l = 0 → LstOk ps l E) : PC Go.Proofs.Tryz.prog 21 [aTr ps, aRows l] (aFirst ps l E) := by
  have h1 := conj_lists ps hs l hl hx
  have hps := hs.procs
  unfold aFirst
  by_cases hf : listsF ps l = 0
  · rw [if_neg (by simpa using hf)]
    rw [hf] at h1
    have hok := hok hf
    obtain ⟨hv, hll, hbad⟩ := listsF_inv hf
    have hvl : (l.length : Int) = ps.length := by omega
    have hl1 := (valid_len hv).1
    have hnd := conj_needs ps hs hv []
    rw [needT_eq (elim_need ps []) hN] at hnd
    have hEn := hN.n
    have hrun := run_spec E
    have hlo := board_lost E hE (finF E) (run_small hE hrun (inE_zero _))
    rw [lostB_fin] at hlo
    have hst := fun bb bn hb => board_steps E hE (fun _ => 0) (finF E) (inE_zero _) (stepsF E) (lostF E) hrun bb bn hb
    have hrow : ∀ p (hp : p < l.length) (hpp : p < ps.length), rowM ps[p].evs.length l[p] = okL E p := fun p hp hpp => by
      unfold rowM okL
      rw [hN.top p hpp]
      refine List.map_congr_left fun k hk => ?_
      rw [hok p hp hpp k (by have := List.mem_range.1 hk; omega)]
    have hB : ∀ f bb bn, boardL E f bb bn = [(bb, .row 116 3 [.agg [.sl 1 (needT E), .sl 1 (okM E), .ls bn 1 0 E.n E.n]] 1), (bn, .row 3 1 (dnA E.n f) E.n)] := fun f bb bn => rfl
    clear hok
    generalize stepsF E = st at *
    generalize finF E = fin at *
    generalize lostF E = lo at *
    unfold aRows
    refine PC.enter 71 [.tmp 4, .tmp 5] [2, 58] Go.Proofs.Tryz.func21 rfl rfl rfl rfl rfl (by simp) (AWp.of ?_); simp only [go_sem]
    repeat (first | ((with_reducible refine AWp.ofC ?_ ?_); (focus exact rfl); simp only [go_sem]) | ((with_reducible refine an ?_ ?_); focus exact Au))
    repeat ((with_reducible refine an ?_ ?_); focus exact As)
    refine (h1).val.use ?_; simp only [go_sem]
    repeat (first | ((with_reducible refine AWp.ofC ?_ ?_); (focus exact rfl); simp only [go_sem]) | ((with_reducible refine an ?_ ?_); focus exact Au))
    refine AWp.seq ?_
    refine AWp.mix mixed [0, 1, 2, 3] (.step 4 (.step 5 (.step 6 (.step 7 .done .done) .done) .done) .done) (by kernel_rfl) ?_; simp only [go_sem, hvl]
    repeat ((with_reducible refine an ?_ ?_); focus exact As)
    refine GCall.use (.sl 1 (needT E)) (fun _ => ⟨At, (hnd).val.use ⟨rfl, rfl⟩⟩) ?_; simp only [go_sem, hvl]
    repeat ((with_reducible refine an ?_ ?_); focus exact As)
    intro bn
    repeat ((with_reducible refine an ?_ ?_); focus exact As)
    intro bb g2
    have n1 : ¬ bb = bn := by omega
    have n2 : ¬ bn = bb := by omega
    repeat (first | ((with_reducible refine AWp.ofC ?_ ?_); (focus exact rfl); simp only [go_sem, hvl]) | ((with_reducible refine an ?_ ?_); focus exact Au))
    refine AWp.range' ps.length [] [2, 7, 26, 27] (fun p vs L => ∃ v Lq, L = Lq ++ [(bb, .row 116 3 [.agg [.sl 1 (needT E), v, .ls bn 1 0 ps.length ps.length]] 1), (bn, .row 3 1 (List.replicate ps.length (ai 0)) ps.length)] ∧ AppSt 69 1 (okK E p) v Lq ∧ (∀ x ∈ Lq, x.1 ≠ bb ∧ x.1 ≠ bn)) (by omega) rfl rfl rfl ⟨anil, [], rfl, .nil, by simp⟩ ?_ ?_
    · rintro p vs L hpp - ⟨v, Lq, rfl, hA, hq⟩
      have hp : p < l.length := by omega
      have hgl : (l.map aInts).getD p .any = .sl 1 (l[p].map ai) := getD_map (f := aInts) hp
      have hgp := getD_map (f := aPr) hpp
      have hel := hs.evs _ (List.getElem_mem hpp)
      have hxl := hx _ (List.getElem_mem hp)
      have hbd := hbad p hp
      rw [nev_get hpp] at hbd
      have hro := hrow p hp hpp
      have hyl := okK_len E p
      rw [okK_succ, ← hro]
      generalize l[p] = x at *
      generalize ps[p] = y at *
      generalize okK E p = ys at *
      have hfo := hA.fo
      rcases hA.inv with ⟨e1, rfl, rfl⟩ | ⟨bq, cap, rfl, rfl⟩
      · have hn1 : ((y.evs.length : Int) + 1).toNat = y.evs.length + 1 := by omega
        simp only [go_sem, List.cons_append, List.nil_append]
        repeat (first | ((with_reducible refine AWp.ofC ?_ ?_); (focus exact rfl); simp only [go_sem, hgl, hgp, hvl, hn1]) | ((with_reducible refine an ?_ ?_); focus exact Au))
        repeat ((with_reducible refine an ?_ ?_); focus exact As)
        intro b10
        intros
        have m1 : (¬ bb = b10 ∧ ¬ b10 = bb) ∧ ¬ bn = b10 ∧ ¬ b10 = bn := by omega
        repeat (first | ((with_reducible refine AWp.ofC ?_ ?_); (focus exact rfl); simp only [go_sem, hn1]) | ((with_reducible refine an ?_ ?_); focus exact Au))
        refine AWp.range' x.length [] [2, 7, 10, 26, 27, 28, 42, 43] (fun i vs L => L = (b10, .row 4 1 (rowM y.evs.length (x.take i)) (y.evs.length + 1)) :: [(bb, .row 116 3 [.agg [.sl 1 (needT E), anil, .ls bn 1 0 ps.length ps.length]] 1), (bn, .row 3 1 (List.replicate ps.length (ai 0)) ps.length)]) (by omega) rfl rfl rfl (by rw [List.take_zero, rowM_nil, List.replicate_succ]) ?_ ?_
        · rintro i vs L hi - rfl
          have gi := getD_map (f := ai) hi
          have hb2 := hbd i hi
          have ge : x.getD i 0 = x[i] := by rw [List.getD_eq_getElem?_getD, List.getElem?_eq_getElem hi]; rfl
          unfold BadI at hb2
          rw [ge] at hb2
          have hset := rowM_set (n := y.evs.length) hi (by omega)
          have hrl := rowM_len y.evs.length (x.take i)
          have hgd : ∃ β, (rowM y.evs.length (x.take i)).getD x[i].toNat .any = ab β := ⟨_, map_range_getD (show x[i].toNat < y.evs.length + 1 by omega) _⟩
          obtain ⟨β, hgd⟩ := hgd
          rw [← hset]
          generalize rowM y.evs.length (x.take i) = R at *
          generalize x[i] = z at *
          simp only [go_sem]
          repeat (first | ((with_reducible refine AWp.ofC ?_ ?_); (focus exact rfl); simp only [go_sem, gi, hrl, hgd, m1]) | ((with_reducible refine an ?_ ?_); focus exact Au))
          exact ⟨_, List.Sublist.refl _, rfl⟩
        · rintro vs L - rfl
          have hrl := rowM_len y.evs.length x
          rw [List.take_length]
          simp only [go_sem]
          refine AWp.view [true, false, false] [(10, .sl 1 (rowM y.evs.length x))] (LVw.refl _) ?_ ?_
          · intro q hq
            simp only [List.mem_singleton] at hq
            subst hq
            simp only [go_sem, pickT]
            exact Vw.ofLs (t := 4) (cap := y.evs.length + 1) (by simp only [lk, if_true]) hrl.symm
          generalize rowM y.evs.length x = R at *
          simp only [go_sem, pickF]
          repeat (first | ((with_reducible refine AWp.ofC ?_ ?_); (focus exact rfl); simp only [go_sem, n1, n2]) | ((with_reducible refine an ?_ ?_); focus exact Au))
          intro b' cap' g8 g9 _
          have n3 : ¬ b' = bb ∧ ¬ b' = bn := by omega
          have n4 : ¬ bb = b' := by omega
          simp only [go_sem, n1, n2, n3, n4]
          refine ⟨_, List.Sublist.refl _, .ls b' 1 0 1 cap', [(b', .row 69 1 [.sl 1 R] cap')], rfl, ?_, ?_⟩
          · rw [e1]; exact .row _ _ _
          · intro y hy; simp only [List.mem_singleton] at hy; subst hy; exact n3
      · have nq := hq (bq, .row 69 1 ys cap) (by simp)
        simp only at nq
        have nq1 : ¬ bb = bq := fun e => nq.1 e.symm
        have nq2 : ¬ bn = bq := fun e => nq.2 e.symm
        have hn1 : ((y.evs.length : Int) + 1).toNat = y.evs.length + 1 := by omega
        simp only [go_sem, List.cons_append, List.nil_append]
        repeat (first | ((with_reducible refine AWp.ofC ?_ ?_); (focus exact rfl); simp only [go_sem, hgl, hgp, hvl, hn1]) | ((with_reducible refine an ?_ ?_); focus exact Au))
        repeat ((with_reducible refine an ?_ ?_); focus exact As)
        intro b10
        intros
        have m1 : (¬ bb = b10 ∧ ¬ b10 = bb) ∧ ¬ bn = b10 ∧ ¬ b10 = bn := by omega
        have m2 : ¬ b10 = bq ∧ ¬ bq = b10 := by omega
        repeat (first | ((with_reducible refine AWp.ofC ?_ ?_); (focus exact rfl); simp only [go_sem, hn1]) | ((with_reducible refine an ?_ ?_); focus exact Au))
        refine AWp.range' x.length [] [2, 7, 10, 26, 27, 28, 42, 43] (fun i vs L => L = (b10, .row 4 1 (rowM y.evs.length (x.take i)) (y.evs.length + 1)) :: [(bq, .row 69 1 ys cap), (bb, .row 116 3 [.agg [.sl 1 (needT E), .ls bq 1 0 ys.length cap, .ls bn 1 0 ps.length ps.length]] 1), (bn, .row 3 1 (List.replicate ps.length (ai 0)) ps.length)]) (by omega) rfl rfl rfl (by rw [List.take_zero, rowM_nil, List.replicate_succ]) ?_ ?_
        · rintro i vs L hi - rfl
          have gi := getD_map (f := ai) hi
          have hb2 := hbd i hi
          have ge : x.getD i 0 = x[i] := by rw [List.getD_eq_getElem?_getD, List.getElem?_eq_getElem hi]; rfl
          unfold BadI at hb2
          rw [ge] at hb2
          have hset := rowM_set (n := y.evs.length) hi (by omega)
          have hrl := rowM_len y.evs.length (x.take i)
          have hgd : ∃ β, (rowM y.evs.length (x.take i)).getD x[i].toNat .any = ab β := ⟨_, map_range_getD (show x[i].toNat < y.evs.length + 1 by omega) _⟩
          obtain ⟨β, hgd⟩ := hgd
          rw [← hset]
          generalize rowM y.evs.length (x.take i) = R at *
          generalize x[i] = z at *
          simp only [go_sem]
          repeat (first | ((with_reducible refine AWp.ofC ?_ ?_); (focus exact rfl); simp only [go_sem, gi, hrl, hgd, m1, nq, nq1, nq2]) | ((with_reducible refine an ?_ ?_); focus exact Au))
          exact ⟨_, List.Sublist.refl _, rfl⟩
        · rintro vs L - rfl
          have hrl := rowM_len y.evs.length x
          rw [List.take_length]
          simp only [go_sem]
          refine AWp.view [true, false, false, false] [(10, .sl 1 (rowM y.evs.length x))] (LVw.refl _) ?_ ?_
          · intro q hq
            simp only [List.mem_singleton] at hq
            subst hq
            simp only [go_sem, pickT]
            exact Vw.ofLs (t := 4) (cap := y.evs.length + 1) (by simp only [lk, if_true]) hrl.symm
          generalize rowM y.evs.length x = R at *
          simp only [go_sem, pickF]
          repeat (first | ((with_reducible refine AWp.ofC ?_ ?_); (focus exact rfl); simp only [go_sem, n1, n2, nq, nq1, nq2]) | ((with_reducible refine an ?_ ?_); focus exact Au))
          intro b' cap' g8 g9 _
          have n3 : ¬ b' = bb ∧ ¬ b' = bn := by omega
          have n4 : ¬ bb = b' := by omega
          simp only [go_sem, n1, n2, n3, n4, nq, nq1, nq2]
          refine ⟨_, List.Sublist.refl _, .ls b' 1 0 (ys.length + 1) cap', [(b', .row 69 1 (ys ++ [.sl 1 R]) cap')], rfl, ?_, ?_⟩
          · have := AppSt.row (t := 69) (k := 1) b' (ys ++ [.sl 1 R]) cap'; simpa using this
          · intro y hy; simp only [List.mem_singleton] at hy; subst hy; exact n3
    · rintro vs L - ⟨v, Lq, rfl, hA, hq⟩
      have hyl := okK_len E ps.length
      have hfin : okK E ps.length = okM E := by unfold okK okM; rw [hEn]
      rw [hfin] at hA hyl
      have hdn : List.replicate ps.length (ai 0) = dnA E.n (fun _ => 0) := by unfold dnA; apply List.ext_getElem (by simp; omega); intro i h1 h2; simp
      rcases hA.inv with ⟨e1, rfl, rfl⟩ | ⟨bq, cap, rfl, rfl⟩
      · rw [e1] at hyl; simp at hyl; omega
      · simp only [go_sem, List.cons_append, List.nil_append]
        refine AWp.view (L' := [(bb, .row 116 3 [.agg [.sl 1 (needT E), .sl 1 (okM E), .ls bn 1 0 ps.length ps.length]] 1), (bn, .row 3 1 (List.replicate ps.length (ai 0)) ps.length)]) [true, false, false] [] ?_ (by simp) ?_
        · simp only [pickT, pickF]
          exact .row (Vws.cons (.mkAgg (Vws.cons (.refl _) (Vws.cons (Vw.ofLs (if_pos rfl) rfl) (Vws.refl _)))) .nil) (.refl _)
        · rw [hdn, ← hEn, ← hB]
          simp only [go_sem]
          repeat (first | ((with_reducible refine AWp.ofC ?_ ?_); (focus exact rfl); simp only [go_sem]) | ((with_reducible refine an ?_ ?_); focus exact Au))
          refine MVal.pass (Lf := []) (Li := boardL E (fun _ => 0) bb bn) (Lr := []) (by simp) (Vws.refl _) (hst bb bn n2).val ?_
          rintro r L1 ⟨Lq, hA, rfl, hq⟩
          refine ⟨_, .refl _, ?_⟩
          have hfo := hA.fo
          have hvw : Vws (Lq ++ boardL E fin bb bn) [.lp bb 3 0 0] [aBoard E fin] := by
            refine board_viewL (bn := bn) ?_ ?_ []
            · rw [lkq fun x hx => (hq x hx).1, hB]; simp only [lk, if_true]
            · rw [lkq fun x hx => (hq x hx).2, hB]; simp only [lk, n2, if_false, if_true]
          simp only [go_sem, hfo, List.append_nil]
          repeat (first | ((with_reducible refine AWp.ofC ?_ ?_); (focus exact rfl); simp only [go_sem, hfo]) | ((with_reducible refine an ?_ ?_); focus exact Au))
          refine (PC.view hvw hlo (Own.v _) ?_).val
          rw [hB] at *
          cases lo with
          | true =>
            (try rw [if_pos rfl])
            rcases hA.inv with ⟨e1, rfl, rfl⟩ | ⟨bq, cap, rfl, rfl⟩
            · simp only [go_sem, List.nil_append]
              repeat (first | ((with_reducible refine AWp.ofC ?_ ?_); (focus exact rfl); simp only [go_sem]) | ((with_reducible refine an ?_ ?_); focus exact Au))
              refine ret_view [] ?_; simp only [go_sem]
              exact .mkTup (Vws.cons (.nil 1) (Vws.refl _))
            · simp only [go_sem, List.cons_append, List.nil_append]
              repeat (first | ((with_reducible refine AWp.ofC ?_ ?_); (focus exact rfl); simp only [go_sem]) | ((with_reducible refine an ?_ ?_); focus exact Au))
              refine ret_view [] ?_; simp only [go_sem]
              exact .mkTup (Vws.cons (.nil 1) (Vws.refl _))
          | false =>
            (try rw [if_neg (by decide)])
            rcases hA.inv with ⟨e1, rfl, rfl⟩ | ⟨bq, cap, rfl, rfl⟩
            · simp only [go_sem, List.nil_append]
              repeat (first | ((with_reducible refine AWp.ofC ?_ ?_); (focus exact rfl); simp only [go_sem, n1, n2]) | ((with_reducible refine an ?_ ?_); focus exact Au))
              refine ret_view [false, true] ?_; simp only [go_sem]
              show Vw _ _ (.tup [aInts (cutL E.n fin), ai 0])
              rw [← dnA_I]
              exact .mkTup (Vws.cons (Vw.ofLs (if_pos rfl) (dnA_length _ _).symm) (Vws.refl _))
            · have nq := hq (bq, .row 77 3 (st.map aStp) cap) (by simp)
              simp only at nq
              have nqa : ¬ bb = bq ∧ ¬ bn = bq := ⟨fun e => nq.1 e.symm, fun e => nq.2 e.symm⟩
              simp only [go_sem, List.cons_append, List.nil_append]
              repeat (first | ((with_reducible refine AWp.ofC ?_ ?_); (focus exact rfl); simp only [go_sem, n1, n2, nqa]) | ((with_reducible refine an ?_ ?_); focus exact Au))
              refine ret_view [false, false, true] ?_; simp only [go_sem]
              show Vw _ _ (.tup [aInts (cutL E.n fin), ai 0])
              rw [← dnA_I]
              exact .mkTup (Vws.cons (Vw.ofLs (if_pos rfl) (dnA_length _ _).symm) (Vws.refl _))
  · rw [if_pos hf]
    generalize listsF ps l = F at *
    unfold aRows
    refine PC.enter 71 [.tmp 4, .tmp 5] [2, 58] Go.Proofs.Tryz.func21 rfl rfl rfl rfl rfl (by simp) (AWp.of ?_); simp only [go_sem]
    repeat (first | ((with_reducible refine AWp.ofC ?_ ?_); (focus exact rfl); simp only [go_sem]) | ((with_reducible refine an ?_ ?_); focus exact Au))
    repeat ((with_reducible refine an ?_ ?_); focus exact As)
    refine (h1).val.use ?_; simp only [go_sem]
    repeat (first | ((with_reducible refine AWp.ofC ?_ ?_); (focus exact rfl); simp only [go_sem, hf]) | ((with_reducible refine an ?_ ?_); focus exact Au))
    refine ret_view [] ?_; simp only [go_sem]
    exact .mkTup (Vws.cons (.nil 1) (Vws.refl _))
end Go.AL
end
section
/- The states in which something is true, as lists. Plain laws. No condition. -/
namespace Go.AL
open Go Go.RowKit
set_option maxRecDepth 4000
def fL (b : Nat → Bool) (m : Nat) : List Int := ((List.range m).filter b).map fun (k : Nat) => (k : Int)
theorem fL_succ (b : Nat → Bool) (m : Nat) : fL b (m + 1) = if b m = true then fL b m ++ [(m : Int)] else fL b m := by
  unfold fL
  rw [List.range_succ, List.filter_append, List.map_append]
  by_cases h : b m = true
  · rw [if_pos h, List.filter_cons_of_pos h]; rfl
  · rw [if_neg h, List.filter_cons_of_neg (by simpa using h)]; simp
theorem fL_len (b : Nat → Bool) (m : Nat) : (fL b m).length ≤ m := by
  unfold fL
  rw [List.length_map]
  refine Nat.le_trans (List.length_filter_le _ _) ?_
  rw [List.length_range]; exact Nat.le_refl _
theorem fL_mem {b : Nat → Bool} {m k : Nat} (hk : k < m) : decide ((k : Int) ∈ fL b m) = b k := by
  unfold fL
  cases h : b k with
  | true => exact decide_eq_true (List.mem_map.2 ⟨k, List.mem_filter.2 ⟨List.mem_range.2 hk, h⟩, rfl⟩)
  | false =>
    refine decide_eq_false fun hm => ?_
    obtain ⟨j, hj, e⟩ := List.mem_map.1 hm
    obtain ⟨_, h2⟩ := List.mem_filter.1 hj
    have : j = k := by omega
    subst this
    rw [h] at h2; cases h2
theorem fL_good (b : Nat → Bool) (m : Nat) {i : Nat} (hi : i < (fL b (m + 1)).length) : ¬ BadI m (fL b (m + 1)) i := by
  have hp : (fL b (m + 1)).Pairwise (· < ·) := by
    unfold fL
    rw [List.pairwise_map]
    exact (List.pairwise_lt_range.filter b).imp fun h => by omega
  have hr : ∀ x ∈ fL b (m + 1), 0 ≤ x ∧ x ≤ m := fun x hx => by
    unfold fL at hx
    obtain ⟨j, hj, rfl⟩ := List.mem_map.1 hx
    have := List.mem_range.1 (List.mem_filter.1 hj).1
    omega
  have ge : ∀ j (hj : j < (fL b (m + 1)).length), (fL b (m + 1)).getD j 0 = (fL b (m + 1))[j] := fun j hj => by rw [List.getD_eq_getElem?_getD, List.getElem?_eq_getElem hj]; rfl
  have h1 := hr _ (List.getElem_mem hi)
  unfold BadI
  rw [ge i hi]
  rintro (h | h | ⟨h0, h⟩)
  · omega
  · omega
  · rw [ge (i - 1) (by omega)] at h
    have := List.pairwise_iff_getElem.1 hp (i - 1) i (by omega) hi (by omega)
    omega
/-- The lists of the states of an elimination. -/
def lstsE (E : Elim) (n : Nat) : List (List Int) := (List.range n).map fun q => fL (E.ok q) (E.top q + 1)
theorem lstsE_len (E : Elim) (n : Nat) : (lstsE E n).length = n := by simp [lstsE]
theorem lstsE_get {E : Elim} {n p : Nat} (hp : p < (lstsE E n).length) : (lstsE E n)[p] = fL (E.ok p) (E.top p + 1) := by simp [lstsE]
theorem lstsE_succ (E : Elim) (n : Nat) : (lstsE E (n + 1)).map aInts = (lstsE E n).map aInts ++ [aInts (fL (E.ok n) (E.top n + 1))] := by unfold lstsE; rw [List.range_succ, List.map_append, List.map_append]; rfl
theorem lsts_zero {ps : List Pr} {E : Elim} (hv : validF ps = true) (hN : NeedOk ps E) : listsF ps (lstsE E ps.length) = 0 := by
  refine listsF_zero ⟨hv, lstsE_len _ _⟩ fun p hp i hi => ?_
  have hpp : p < ps.length := by rw [lstsE_len] at hp; exact hp
  rw [lstsE_get hp] at hi ⊢
  rw [nev_get hpp, ← hN.top p hpp]
  exact fL_good _ _ hi
theorem lsts_ok {ps : List Pr} {E : Elim} (hN : NeedOk ps E) : LstOk ps (lstsE E ps.length) E := fun p hp hpp k hk => by
  rw [lstsE_get hp, fL_mem (by rw [hN.top p hpp]; omega)]
theorem cnt_take {l : List Stp} {j k : Nat} (hj : j < l.length) : (l.take (j + 1)).countP (inSp k) = (l.take j).countP (inSp k) + if inSp k l[j] = true then 1 else 0 := by
  rw [List.take_add_one, List.getElem?_eq_getElem hj, List.countP_append]
  simp only [Option.toList_some, List.countP_cons, List.countP_nil, Nat.zero_add]
end Go.AL
end
section
/- The reference of layer 37: faults, and which states are excluded. No condition. -/
namespace Go.AL
open Go Go.RowKit
set_option maxRecDepth 4000
theorem ref37_Fault (ps : List Pr) (hs : Sm ps) (ts : List Pd) (hz : ∀ t ∈ ts, szF t ≤ 1000000) (htl : ts.length ≤ 1000000) : PC Go.Proofs.Tryz.prog 26 [aTr ps, .sl 6 (ts.map aPd)] (ai (conF ps ts)) := by
  have h1 := ref12_Valid ps hs
  have hl := hs.procs
  by_cases hv : validF ps = true ∧ ts.length = ps.length
  · have hvl : (ts.length : Int) = ps.length := by omega
    rw [hv.1] at h1
    have hhit := fun p hp => conF_hit hv (p := p) hp
    have hzero := conF_zero hv
    generalize conF ps ts = C at *
    refine PC.enter 34 [.tmp 4] [2] Go.Proofs.Tryz.func26 rfl rfl rfl rfl rfl (by simp) (AWp.of ?_); simp only [go_sem]
    repeat (first | ((with_reducible refine AWp.ofC ?_ ?_); (focus exact rfl); simp only [go_sem]) | ((with_reducible refine an ?_ ?_); focus exact Au))
    repeat ((with_reducible refine an ?_ ?_); focus exact As)
    refine (h1).val.use ?_; simp only [go_sem, hvl]
    repeat (first | ((with_reducible refine AWp.ofC ?_ ?_); (focus exact rfl); simp only [go_sem, hvl]) | ((with_reducible refine an ?_ ?_); focus exact Au))
    refine AWp.block (AWp.count 5 ts.length [] [1, 2] (fun p vs L => L = [] ∧ ∀ q (hq : q < ts.length), q < p → lclF ps q 0 ts[q] = 0) rfl rfl ⟨rfl, fun q hq h => by omega⟩ ?_)
    rintro p vs L hp - ⟨rfl, hJ⟩
    simp only [go_sem]
    repeat (first | ((with_reducible refine AWp.ofC ?_ ?_); (focus exact rfl); simp only [go_sem]) | ((with_reducible refine an ?_ ?_); focus exact Au))
    refine ⟨fun h2 => ?_, fun h2 => ?_⟩
    · have hpt : p < ts.length := by omega
      have hgt := getD_map (f := aPd) hpt
      have hlf := ref29_LocalFault ps hs p 0 ts[p] (hz _ (List.getElem_mem hpt))
      have hh := hhit p hpt hJ
      generalize hE : lclF ps p 0 ts[p] = e at *
      generalize hT : ts[p] = t at *
      obtain ⟨k0, n, pp, q, s, l⟩ := t
      simp only [aPd_mk] at *
      refine AWp.seq (AWp.block (AWp.seq ?_))
      refine AWp.mix mixed [0, 1, 2, 3, 4, 5, 6, 7] .done (by kernel_rfl) ?_; simp only [go_sem, hgt]
      repeat ((with_reducible refine an ?_ ?_); focus exact As)
      repeat ((with_reducible refine an ?_ ?_); focus exact As)
      refine GCall.use (ai e) (fun _ => ⟨At, (hlf).val.use ⟨rfl, rfl⟩⟩) ?_; simp only [go_sem]
      repeat ((with_reducible refine an ?_ ?_); focus exact As)
      repeat (first | ((with_reducible refine AWp.ofC ?_ ?_); (focus exact rfl); simp only [go_sem]) | ((with_reducible refine an ?_ ?_); focus exact Au))
      refine ⟨fun h3 => ?_, fun h3 => ?_⟩
      · repeat (first | ((with_reducible refine AWp.ofC ?_ ?_); (focus exact rfl); simp only [go_sem]) | ((with_reducible refine an ?_ ?_); focus exact Au))
        refine ret_eq ?_; simp only [go_sem]
        rw [hh h3]
      · repeat (first | ((with_reducible refine AWp.ofC ?_ ?_); (focus exact rfl); simp only [go_sem]) | ((with_reducible refine an ?_ ?_); focus exact Au))
        refine ⟨_, List.Sublist.refl _, rfl, fun j hj hjp => ?_⟩
        by_cases ej : j = p
        · subst ej; rw [hT, hE, h3]
        · exact hJ j hj (by omega)
    · repeat (first | ((with_reducible refine AWp.ofC ?_ ?_); (focus exact rfl); simp only [go_sem]) | ((with_reducible refine an ?_ ?_); focus exact Au))
      refine ret_eq ?_; simp only [go_sem]
      rw [hzero fun q hq => hJ q hq (by omega)]
  · rw [conF_bad hv]
    by_cases hv1 : validF ps = true
    · have hvl : ¬ (ts.length : Int) = ps.length := fun e => hv ⟨hv1, by omega⟩
      rw [hv1] at h1
      refine PC.enter 34 [.tmp 4] [2] Go.Proofs.Tryz.func26 rfl rfl rfl rfl rfl (by simp) (AWp.of ?_); simp only [go_sem]
      repeat (first | ((with_reducible refine AWp.ofC ?_ ?_); (focus exact rfl); simp only [go_sem]) | ((with_reducible refine an ?_ ?_); focus exact Au))
      repeat ((with_reducible refine an ?_ ?_); focus exact As)
      refine (h1).val.use ?_; simp only [go_sem, hvl]
      repeat (first | ((with_reducible refine AWp.ofC ?_ ?_); (focus exact rfl); simp only [go_sem, hvl]) | ((with_reducible refine an ?_ ?_); focus exact Au))
      refine ret_eq ?_; simp only [go_sem]
    · rw [show validF ps = false by simpa using hv1] at h1
      refine PC.enter 34 [.tmp 4] [2] Go.Proofs.Tryz.func26 rfl rfl rfl rfl rfl (by simp) (AWp.of ?_); simp only [go_sem]
      repeat (first | ((with_reducible refine AWp.ofC ?_ ?_); (focus exact rfl); simp only [go_sem]) | ((with_reducible refine an ?_ ?_); focus exact Au))
      repeat ((with_reducible refine an ?_ ?_); focus exact As)
      refine (h1).val.use ?_; simp only [go_sem]
      repeat (first | ((with_reducible refine AWp.ofC ?_ ?_); (focus exact rfl); simp only [go_sem]) | ((with_reducible refine an ?_ ?_); focus exact Au))
      refine ret_eq ?_; simp only [go_sem]
end Go.AL
end
section
/- The law ConjunctiveSame: the walk. No condition. -/
namespace Go.AL
open Go Go.RowKit
set_option maxRecDepth 4000
theorem le_sumN : ∀ (l : List Nat) (x : Nat), x ∈ l → x ≤ l.sum
  | a :: r, x, h => by
    rw [List.sum_cons]
    rcases List.mem_cons.1 h with rfl | h
    · omega
    · have := le_sumN r x h; omega
theorem off_le_all (ps : List Pr) {p : Nat} (hp : p < ps.length) : ps[p].evs.length ≤ off ps ps.length := by
  unfold off
  rw [List.take_length]
  exact le_sumN _ _ (List.mem_map.2 ⟨_, List.getElem_mem hp, rfl⟩)
set_option maxHeartbeats 4000000 in
theorem law37_ConjunctiveSame (ps : List Pr) (ts : List Pd) (htl : ts.length ≤ 9223372036854775807) : PC Go.Proofs.Tryz.prog 7 [aTr ps, .sl 6 (ts.map aPd)] (ab true) := by
  have haw := law37_awake
  have hbig := law37_big ps
  have hhu := law37_huge ts htl
  have hsm := @bigF_sm ps
  have hsize := fun h => law37_size ps h
  have hmz : manyF ts = false → ts.length ≤ 10 ∧ ∀ t ∈ ts, szF t ≤ 1000000 := fun h => ⟨(many_size h).1, fun t ht => by have := (many_size h).2 t ht; omega⟩
  have hfa := fun hs hm => ref37_Fault ps hs ts (hmz hm).2 (by have := (hmz hm).1; omega)
  refine PC.enter 164 [.tmp 4] [2, 7, 17, 20, 124, 129] Go.Proofs.Tryz.func7 rfl rfl rfl rfl rfl (by simp) (AWp.of ?_); simp only [go_sem]
  repeat (first | ((with_reducible refine AWp.ofC ?_ ?_); (focus exact rfl); simp only [go_sem]) | ((with_reducible refine an ?_ ?_); focus exact Au))
  repeat ((with_reducible refine an ?_ ?_); focus exact As)
  refine (haw).val.use ?_; simp only [go_sem]
  repeat (first | ((with_reducible refine AWp.ofC ?_ ?_); (focus exact rfl); simp only [go_sem]) | ((with_reducible refine an ?_ ?_); focus exact Au))
  repeat ((with_reducible refine an ?_ ?_); focus exact As)
  refine (hbig).val.use ?_; simp only [go_sem]
  repeat ((with_reducible refine an ?_ ?_); focus exact As)
  refine GCall.use (ab (manyF ts)) (fun _ => ⟨At, (hhu).val.use ⟨rfl, rfl⟩⟩) ?_; simp only [go_sem]
  repeat ((with_reducible refine an ?_ ?_); focus exact As)
  refine GCall.use (ai (off ps ps.length)) ?_ ?_
  · intro g; exact ⟨At, (hsize (hsm g.1)).val.use ⟨rfl, rfl⟩⟩
  simp only [go_sem]
  repeat ((with_reducible refine an ?_ ?_); focus exact As)
  refine GCall.use (ai (conF ps ts)) ?_ ?_
  · intro g; exact ⟨At, (hfa (hsm g.1.1) g.1.2).val.use ⟨rfl, rfl⟩⟩
  simp only [go_sem]
  repeat ((with_reducible refine an ?_ ?_); focus exact As)
  repeat (first | ((with_reducible refine AWp.ofC ?_ ?_); (focus exact rfl); simp only [go_sem]) | ((with_reducible refine an ?_ ?_); focus exact Au))
  refine ⟨fun h1 => ?_, fun h1 => ?_⟩
  · repeat (first | ((with_reducible refine AWp.ofC ?_ ?_); (focus exact rfl); simp only [go_sem]) | ((with_reducible refine an ?_ ?_); focus exact Au))
    refine ret_eq ?_; simp only [go_sem]
  intro h2 h3 h4
  have hs := hsm h1
  obtain ⟨hl10, hz⟩ := hmz h2
  obtain ⟨hv, hlen, hlc⟩ := conF_inv h4
  have hl1 := (valid_len hv).1
  have hN := elim_need ps ts
  have hE := elim_sm hs ts
  have hF := conj_First ps hs (lstsE (elimOf ps ts) ps.length) (by rw [lstsE_len]; omega) (fun x hx => by
    obtain ⟨i, hi, rfl⟩ := List.getElem_of_mem hx
    rw [lstsE_get hi]
    have := fL_len ((elimOf ps ts).ok i) ((elimOf ps ts).top i + 1)
    have hip : i < ps.length := by rw [lstsE_len] at hi; exact hi
    rw [hN.top i hip] at this ⊢
    have := hs.evs _ (List.getElem_mem hip)
    have h60 := off_le_all ps hip
    omega) (elimOf ps ts) hN hE fun _ => lsts_ok hN
  have hP := conj_Possibly ps hs ts hz (by omega)
  unfold aFirst at hF
  rw [if_neg (by rw [lsts_zero hv hN]; simp)] at hF
  unfold aPossR ansOf at hP
  rw [if_pos h4] at hP
  have hall : ∀ p (hp : p < ts.length) (hpp : p < ps.length), PC Go.Proofs.Tryz.prog 39 [aTr ps, ai p, aPd ts[p]] (.tup [.sl 1 (okL (elimOf ps ts) p), ai 0]) ∧ PC Go.Proofs.Tryz.prog 14 [aTr ps, ai p, aPd ts[p]] (.tup [.sl 3 ((spL ((elimOf ps ts).ok p) p ((elimOf ps ts).top p + 1)).map aStp), ai 0]) := fun p hp hpp => by
    have h5 := evaluate_Truths ps hs p ts[p] (hz _ (List.getElem_mem hp))
    have h6 := conj_Spans ps hs p ts[p] (hz _ (List.getElem_mem hp))
    unfold aTruths at h5
    unfold aSpansR spansF at h6
    rw [if_pos (hlc p hp), Int.toNat_natCast] at h5 h6
    rw [truths_row hp hpp] at h5
    have hok : (elimOf ps ts).ok p = fun k : Nat => lclT ps p ts[p] k := by
      funext k
      show (match ts[p]? with | some t => lclT ps p t k | none => true) = _
      rw [List.getElem?_eq_getElem hp]
    rw [hok]
    exact ⟨h5, h6⟩
  clear hsm hsize hmz hfa hlc haw hbig hhu hz
  generalize elimOf ps ts = E at *
  generalize stepsF E = st at *
  generalize lostF E = lo at *
  generalize finF E = fin at *
  repeat (first | ((with_reducible refine AWp.ofC ?_ ?_); (focus exact rfl); simp only [go_sem]) | ((with_reducible refine an ?_ ?_); focus exact Au))
  refine AWp.range' ts.length [5] [1, 2, 41, 42] (fun p vs L => ∃ v, vs = [v] ∧ AppSt 42 1 ((lstsE E p).map aInts) v L) (by omega) rfl rfl rfl ⟨anil, rfl, .nil⟩ ?_ ?_
  · rintro p vs L hp - ⟨v5, rfl, hA5⟩
    have hpp : p < ps.length := by omega
    have hgt := getD_map (f := aPd) hp
    have hgp := getD_map (f := aPr) hpp
    have hel := hs.evs _ (List.getElem_mem hpp)
    have htop := hN.top p hpp
    obtain ⟨htr, hsp⟩ := hall p hp hpp
    rw [lstsE_succ, htop]
    rw [htop] at hsp
    have hol := okL_len E p
    have hog : ∀ k, k < ps[p].evs.length + 1 → (okL E p).getD k .any = ab (E.ok p k) := fun k hk => okL_get (by omega)
    rw [htop] at hol
    have hin := spL_in (b := E.ok p) (p := p) (ps[p].evs.length + 1)
    have hpr := spL_proc (b := E.ok p) (p := p) (ps[p].evs.length + 1)
    have hSl := spL_len (b := E.ok p) (p := p) (ps[p].evs.length + 1)
    generalize spL (E.ok p) p (ps[p].evs.length + 1) = S at *
    generalize okL E p = okr at *
    generalize E.ok p = b at *
    generalize ps[p] = y at *
    generalize ts[p] = t at *
    obtain ⟨k0, n, p0, q0, s0, l0⟩ := t
    simp only [aPd_mk] at *
    have hf5 := hA5.fo
    have hyl5 : ((lstsE E p).map aInts).length = p := by rw [List.length_map, lstsE_len]
    generalize (lstsE E p).map aInts = ys5 at *
    simp only [go_sem]
    repeat (first | ((with_reducible refine AWp.ofC ?_ ?_); (focus exact rfl); simp only [go_sem, hgt]) | ((with_reducible refine an ?_ ?_); focus exact Au))
    intro b7
    intros
    repeat (first | ((with_reducible refine AWp.ofC ?_ ?_); (focus exact rfl); simp only [go_sem]) | ((with_reducible refine an ?_ ?_); focus exact Au))
    repeat ((with_reducible refine an ?_ ?_); focus exact As)
    refine (htr).val.use ?_; simp only [go_sem]
    repeat (first | ((with_reducible refine AWp.ofC ?_ ?_); (focus exact rfl); simp only [go_sem]) | ((with_reducible refine an ?_ ?_); focus exact Au))
    repeat ((with_reducible refine an ?_ ?_); focus exact As)
    refine (hsp).val.use ?_; simp only [go_sem]
    repeat (first | ((with_reducible refine AWp.ofC ?_ ?_); (focus exact rfl); simp only [go_sem, hgp, hol]) | ((with_reducible refine an ?_ ?_); focus exact Au))
    intro h6
    repeat (first | ((with_reducible refine AWp.ofC ?_ ?_); (focus exact rfl); simp only [go_sem, hol]) | ((with_reducible refine an ?_ ?_); focus exact Au))
    refine AWp.range' (y.evs.length + 1) [12] [1, 2, 5, 6, 10, 41, 42, 43, 81, 82] (fun k vs L' => ∃ v12 L12, vs = [v12] ∧ L' = L12 ++ L ∧ AppSt 3 1 ((fL b k).map ai) v12 L12) (by omega) rfl rfl rfl ⟨anil, [], rfl, rfl, .nil⟩ ?_ ?_
    · rintro k vs L' hk - ⟨v12, L12, rfl, rfl, hA12⟩
      have hgk := hog k hk
      have hin := hin k
      have hfs := fL_succ b k
      have hf12 := hA12.fo
      have hyl12 : ((fL b k).map ai).length ≤ k := by rw [List.length_map]; exact fL_len b k
      cases hb : b k with
      | true =>
        rw [hb] at hgk hin hfs
        rw [if_pos ⟨hk, rfl⟩] at hin
        rw [if_pos rfl] at hfs
        rw [hfs, List.map_append]
        simp only [go_sem]
        repeat (first | ((with_reducible refine AWp.ofC ?_ ?_); (focus exact rfl); simp only [go_sem, hgk]) | ((with_reducible refine an ?_ ?_); focus exact Au))
        refine AWp.range' S.length [15] [1, 2, 5, 6, 10, 12, 13, 14, 41, 42, 43, 81, 82, 83, 88, 89] (fun j vs L' => vs = [ai ((S.take j).countP (inSp k) : Nat)] ∧ L' = L12 ++ L) (by omega) rfl rfl rfl ⟨by rw [List.take_zero]; rfl, rfl⟩ ?_ ?_
        · rintro j vs L' hj - ⟨rfl, rfl⟩
          have hgj : (S.map aStp).getD j .any = .agg [ai S[j].1, ai S[j].2.1, ai S[j].2.2] := getD_map (f := aStp) hj
          have hct := cnt_take (k := k) hj
          have hcl : (S.take j).countP (inSp k) ≤ j := Nat.le_trans List.countP_le_length (by rw [List.length_take]; omega)
          have hp1 := hpr _ (List.getElem_mem hj)
          rw [hct]
          generalize S[j] = sj at *
          obtain ⟨x1, x2, x3⟩ := sj
          simp only at hp1 hgj
          subst hp1
          generalize (S.take j).countP (inSp k) = cn at *
          simp only [go_sem]
          repeat (first | ((with_reducible refine AWp.ofC ?_ ?_); (focus exact rfl); simp only [go_sem, hgj]) | ((with_reducible refine an ?_ ?_); focus exact Au))
          intro b17
          intros
          repeat (first | ((with_reducible refine AWp.ofC ?_ ?_); (focus exact rfl); simp only [go_sem]) | ((with_reducible refine an ?_ ?_); focus exact Au))
          refine ⟨fun h7 h8 => ?_, fun h7 => ?_⟩
          · repeat (first | ((with_reducible refine AWp.ofC ?_ ?_); (focus exact rfl); simp only [go_sem]) | ((with_reducible refine an ?_ ?_); focus exact Au))
            refine ⟨_, List.Sublist.refl _, ?_, rfl⟩
            rw [if_pos (inSp_iff.2 ⟨by omega, by omega⟩)]
            rfl
          · refine ⟨_, List.Sublist.refl _, ?_, rfl⟩
            rw [if_neg fun h => by have := inSp_iff.1 h; exact h7 (by omega) (by omega)]
            rfl
        · rintro vs L' - ⟨rfl, rfl⟩
          rw [List.take_length, hin, show ((1 : Nat) : Int) = 1 from rfl]
          generalize (fL b k).map ai = ys at *
          simp only [go_sem]
          rcases hA12.inv with ⟨e1, rfl, rfl⟩ | ⟨bq, cap, rfl, rfl⟩
          · simp only [List.nil_append]
            repeat (first | ((with_reducible refine AWp.ofC ?_ ?_); (focus exact rfl); simp only [go_sem, Int.reduceEq, Int.reduceLT]) | ((with_reducible refine an ?_ ?_); focus exact Au))
            intro b' cap'
            intros
            repeat (first | ((with_reducible refine AWp.ofC ?_ ?_); (focus exact rfl); simp only [go_sem]) | ((with_reducible refine an ?_ ?_); focus exact Au))
            refine ⟨_, List.Sublist.refl _, .ls b' 1 0 1 cap', [(b', .row 3 1 [ai k] cap')], rfl, rfl, ?_⟩
            rw [e1]; exact .row _ _ _
          · simp only [List.cons_append, List.nil_append]
            repeat (first | ((with_reducible refine AWp.ofC ?_ ?_); (focus exact rfl); simp only [go_sem, Int.reduceEq, Int.reduceLT]) | ((with_reducible refine an ?_ ?_); focus exact Au))
            intro b' cap'
            intros
            repeat (first | ((with_reducible refine AWp.ofC ?_ ?_); (focus exact rfl); simp only [go_sem]) | ((with_reducible refine an ?_ ?_); focus exact Au))
            refine ⟨_, List.Sublist.refl _, .ls b' 1 0 (ys.length + 1) cap', [(b', .row 3 1 (ys ++ [ai k]) cap')], rfl, rfl, ?_⟩
            have := AppSt.row (t := 3) (k := 1) b' (ys ++ [ai k]) cap'
            simpa using this
      | false =>
        rw [hb] at hgk hin hfs
        rw [if_neg (by simp)] at hin hfs
        rw [hfs]
        simp only [go_sem]
        repeat (first | ((with_reducible refine AWp.ofC ?_ ?_); (focus exact rfl); simp only [go_sem, hgk]) | ((with_reducible refine an ?_ ?_); focus exact Au))
        refine AWp.range' S.length [15] [1, 2, 5, 6, 10, 12, 13, 14, 41, 42, 43, 81, 82, 83, 88, 89] (fun j vs L' => vs = [ai ((S.take j).countP (inSp k) : Nat)] ∧ L' = L12 ++ L) (by omega) rfl rfl rfl ⟨by rw [List.take_zero]; rfl, rfl⟩ ?_ ?_
        · rintro j vs L' hj - ⟨rfl, rfl⟩
          have hgj : (S.map aStp).getD j .any = .agg [ai S[j].1, ai S[j].2.1, ai S[j].2.2] := getD_map (f := aStp) hj
          have hct := cnt_take (k := k) hj
          have hcl : (S.take j).countP (inSp k) ≤ j := Nat.le_trans List.countP_le_length (by rw [List.length_take]; omega)
          have hp1 := hpr _ (List.getElem_mem hj)
          rw [hct]
          generalize S[j] = sj at *
          obtain ⟨x1, x2, x3⟩ := sj
          simp only at hp1 hgj
          subst hp1
          generalize (S.take j).countP (inSp k) = cn at *
          simp only [go_sem]
          repeat (first | ((with_reducible refine AWp.ofC ?_ ?_); (focus exact rfl); simp only [go_sem, hgj]) | ((with_reducible refine an ?_ ?_); focus exact Au))
          intro b17
          intros
          repeat (first | ((with_reducible refine AWp.ofC ?_ ?_); (focus exact rfl); simp only [go_sem]) | ((with_reducible refine an ?_ ?_); focus exact Au))
          refine ⟨fun h7 h8 => ?_, fun h7 => ?_⟩
          · repeat (first | ((with_reducible refine AWp.ofC ?_ ?_); (focus exact rfl); simp only [go_sem]) | ((with_reducible refine an ?_ ?_); focus exact Au))
            refine ⟨_, List.Sublist.refl _, ?_, rfl⟩
            rw [if_pos (inSp_iff.2 ⟨by omega, by omega⟩)]
            rfl
          · refine ⟨_, List.Sublist.refl _, ?_, rfl⟩
            rw [if_neg fun h => by have := inSp_iff.1 h; exact h7 (by omega) (by omega)]
            rfl
        · rintro vs L' - ⟨rfl, rfl⟩
          rw [List.take_length, hin, show ((0 : Nat) : Int) = 0 from rfl]
          simp only [go_sem]
          repeat (first | ((with_reducible refine AWp.ofC ?_ ?_); (focus exact rfl); simp only [go_sem, hf12, Int.reduceEq, Int.reduceLT]) | ((with_reducible refine an ?_ ?_); focus exact Au))
          exact ⟨_, List.Sublist.refl _, _, _, rfl, rfl, hA12⟩
    · rintro vs L' - ⟨v12, L12, rfl, rfl, hA12⟩
      have hyl12 := fL_len b (y.evs.length + 1)
      rw [← List.length_map (f := ai)] at hyl12
      generalize hfl : fL b (y.evs.length + 1) = fl at *
      have hX : aInts fl = .sl 1 (fl.map ai) := rfl
      rcases hA12.inv with ⟨e1, rfl, rfl⟩ | ⟨bq, cap, rfl, rfl⟩
      · simp only [go_sem, List.nil_append]
        refine AWp.view [] [(12, aInts fl)] (LVw.refl _) ?_ ?_
        · intro q hq
          simp only [List.mem_singleton] at hq
          subst hq
          rw [hX, e1]
          exact .nil 1
        simp only [pickT, pickF]
        rw [hX]
        generalize fl.map ai = xs at *
        rcases hA5.inv with ⟨e5, rfl, rfl⟩ | ⟨bz, capz, rfl, rfl⟩
        · repeat (first | ((with_reducible refine AWp.ofC ?_ ?_); (focus exact rfl); simp only [go_sem]) | ((with_reducible refine an ?_ ?_); focus exact Au))
          intro b' cap'
          intros
          refine ⟨_, List.Sublist.refl _, _, rfl, ?_⟩
          rw [e5]; exact .row _ _ _
        · repeat (first | ((with_reducible refine AWp.ofC ?_ ?_); (focus exact rfl); simp only [go_sem]) | ((with_reducible refine an ?_ ?_); focus exact Au))
          intro b' cap'
          intros
          refine ⟨_, List.Sublist.refl _, _, rfl, ?_⟩
          have := AppSt.row (t := 42) (k := 1) b' (ys5 ++ [.sl 1 xs]) cap'
          simpa using this
      · simp only [go_sem, List.cons_append, List.nil_append]
        refine AWp.view [true] [(12, aInts fl)] (LVw.refl _) ?_ ?_
        · intro q hq
          simp only [List.mem_singleton] at hq
          subst hq
          rw [hX]
          simp only [go_sem, pickT]
          exact Vw.ofLs (t := 3) (cap := cap) (by simp only [lk, if_true]) (List.length_map _).symm
        simp only [pickT, pickF]
        rw [hX]
        generalize fl.map ai = xs at *
        rcases hA5.inv with ⟨e5, rfl, rfl⟩ | ⟨bz, capz, rfl, rfl⟩
        · repeat (first | ((with_reducible refine AWp.ofC ?_ ?_); (focus exact rfl); simp only [go_sem]) | ((with_reducible refine an ?_ ?_); focus exact Au))
          intro b' cap'
          intros
          refine ⟨_, List.Sublist.refl _, _, rfl, ?_⟩
          rw [e5]; exact .row _ _ _
        · repeat (first | ((with_reducible refine AWp.ofC ?_ ?_); (focus exact rfl); simp only [go_sem]) | ((with_reducible refine an ?_ ?_); focus exact Au))
          intro b' cap'
          intros
          refine ⟨_, List.Sublist.refl _, _, rfl, ?_⟩
          have := AppSt.row (t := 42) (k := 1) b' (ys5 ++ [.sl 1 xs]) cap'
          simpa using this
  · rintro vs L - ⟨v5, rfl, hA5⟩
    rw [hlen] at hA5
    have hyl5 : ((lstsE E ps.length).map aInts).length = ps.length := by rw [List.length_map, lstsE_len]
    have hX : aRows (lstsE E ps.length) = .sl 1 ((lstsE E ps.length).map aInts) := rfl
    rw [hX] at hF
    generalize (lstsE E ps.length).map aInts = ys5 at *
    rcases hA5.inv with ⟨e5, rfl, rfl⟩ | ⟨bz, capz, rfl, rfl⟩
    · rw [e5] at hyl5; simp at hyl5; omega
    simp only [go_sem]
    refine AWp.view [true] [(5, .sl 1 ys5)] (LVw.refl _) ?_ ?_
    · intro q hq
      simp only [List.mem_singleton] at hq
      subst hq
      simp only [go_sem, pickT]
      exact Vw.ofLs (t := 42) (cap := capz) (by simp only [lk, if_true]) rfl
    simp only [pickT, pickF]
    have hsq := ints_equal (cutL E.n fin) (cutL E.n fin) (by rw [cutL_len, hN.n]; omega)
    rw [decide_eq_true rfl] at hsq
    cases lo with
    | true =>
      rw [if_pos rfl] at hF hP
      unfold aAns aSps at hP
      repeat (first | ((with_reducible refine AWp.ofC ?_ ?_); (focus exact rfl); simp only [go_sem]) | ((with_reducible refine an ?_ ?_); focus exact Au))
      repeat ((with_reducible refine an ?_ ?_); focus exact As)
      refine (hF).val.use ?_; simp only [go_sem]
      repeat (first | ((with_reducible refine AWp.ofC ?_ ?_); (focus exact rfl); simp only [go_sem]) | ((with_reducible refine an ?_ ?_); focus exact Au))
      repeat ((with_reducible refine an ?_ ?_); focus exact As)
      refine (hP).val.use ?_; simp only [go_sem]
      intro b20
      intros
      repeat (first | ((with_reducible refine AWp.ofC ?_ ?_); (focus exact rfl); simp only [go_sem]) | ((with_reducible refine an ?_ ?_); focus exact Au))
      refine ret_eq ?_; simp only [go_sem]
      rfl
    | false =>
      rw [if_neg (by decide)] at hF hP
      unfold aAns aSps at hP
      repeat (first | ((with_reducible refine AWp.ofC ?_ ?_); (focus exact rfl); simp only [go_sem]) | ((with_reducible refine an ?_ ?_); focus exact Au))
      repeat ((with_reducible refine an ?_ ?_); focus exact As)
      refine (hF).val.use ?_; simp only [go_sem]
      repeat (first | ((with_reducible refine AWp.ofC ?_ ?_); (focus exact rfl); simp only [go_sem]) | ((with_reducible refine an ?_ ?_); focus exact Au))
      repeat ((with_reducible refine an ?_ ?_); focus exact As)
      refine (hP).val.use ?_; simp only [go_sem]
      intro b20
      intros
      repeat (first | ((with_reducible refine AWp.ofC ?_ ?_); (focus exact rfl); simp only [go_sem]) | ((with_reducible refine an ?_ ?_); focus exact Au))
      repeat ((with_reducible refine an ?_ ?_); focus exact As)
      refine GCall.use (ab true) (fun _ => ⟨At, (hsq).val.use ⟨rfl, rfl⟩⟩) ?_; simp only [go_sem]
      repeat ((with_reducible refine an ?_ ?_); focus exact As)
      repeat (first | ((with_reducible refine AWp.ofC ?_ ?_); (focus exact rfl); simp only [go_sem]) | ((with_reducible refine an ?_ ?_); focus exact Au))
      refine ret_eq ?_; simp only [go_sem]
end Go.AL
end
section
/- The least cut whose counts are in lists, found by moving all that lag. Plain laws. No condition. -/
namespace Go.AL
open Go Go.RowKit
set_option maxRecDepth 4000
def nowF (l : List (List Int)) (at' : Nat → Nat) (q : Nat) : Int := (l.getD q []).getD (at' q) 0
def nowL (n : Nat) (l : List (List Int)) (at' : Nat → Nat) : List Int := (List.range n).map (nowF l at')
theorem nowL_len (n : Nat) (l : List (List Int)) (a : Nat → Nat) : (nowL n l a).length = n := by simp [nowL]
theorem nowL_cAt {n : Nat} {l : List (List Int)} {a : Nat → Nat} {p : Nat} (hp : p < n) : cAt (nowL n l a) p = nowF l a p := by
  rw [cAt_nat (by rw [nowL_len]; exact hp)]; simp [nowL]
theorem good_mono {n : Nat} {x : List Int} (h : ∀ i, i < x.length → ¬ BadI n x i) : ∀ (j i : Nat), i ≤ j → j < x.length → x.getD i 0 ≤ x.getD j 0
  | 0, i, hi, hj => by have : i = 0 := by omega
                       subst this; exact Int.le_refl _
  | j + 1, i, hi, hj => by
    by_cases e : i = j + 1
    · subst e; exact Int.le_refl _
    · have h1 := good_mono h j i (by omega) (by omega)
      have h2 := h (j + 1) hj
      unfold BadI at h2
      have h3 : ¬ (x.getD (j + 1) 0 ≤ x.getD (j + 1 - 1) 0) := fun hh => h2 (.inr (.inr ⟨by omega, hh⟩))
      rw [Nat.add_sub_cancel] at h3
      omega
theorem good_rng {n : Nat} {x : List Int} (h : ∀ i, i < x.length → ¬ BadI n x i) {i : Nat} (hi : i < x.length) : 0 ≤ x.getD i 0 ∧ x.getD i 0 ≤ n := by
  have := h i hi
  unfold BadI at this
  omega
/-- What satisfies the lists lies at or behind the places. -/
def AtOk (ps : List Pr) (E : Elim) (l : List (List Int)) (a : Nat → Nat) : Prop := ∀ d, SatD ps E d → ∀ p, p < ps.length → ∃ i, a p ≤ i ∧ i < (l.getD p []).length ∧ (l.getD p []).getD i 0 = cAt d p
section
variable {ps : List Pr} {E : Elim} {l : List (List Int)} {a : Nat → Nat}
theorem lst_get {p : Nat} (hp : p < l.length) : l.getD p [] = l[p] := by rw [List.getD_eq_getElem?_getD, List.getElem?_eq_getElem hp]; rfl
theorem lst_good (hf : listsF ps l = 0) {p : Nat} (hp : p < ps.length) : ∀ i, i < (l.getD p []).length → ¬ BadI ps[p].evs.length (l.getD p []) i := by
  obtain ⟨_, hl, h⟩ := listsF_inv hf
  have hpl : p < l.length := by omega
  have := h p hpl
  rw [nev_get hp] at this
  rw [lst_get hpl]; exact this
theorem at_zero (hf : listsF ps l = 0) (hok : LstOk ps l E) : AtOk ps E l fun _ => 0 := fun d hd p hp => by
  obtain ⟨_, hl, _⟩ := listsF_inv hf
  have hpl : p < l.length := by omega
  obtain ⟨r1, r2⟩ := (inRange_iff hd.len).1 hd.rng p hp
  have h1 := hd.ok p hp
  rw [hok p hpl hp _ (by omega)] at h1
  have h2 := of_decide_eq_true h1
  rw [Int.toNat_of_nonneg r1] at h2
  obtain ⟨i, hi, e⟩ := List.getElem_of_mem h2
  refine ⟨i, Nat.zero_le _, by rw [lst_get hpl]; exact hi, ?_⟩
  rw [lst_get hpl, List.getD_eq_getElem?_getD, List.getElem?_eq_getElem hi]; exact e
theorem at_none (h : AtOk ps E l a) {p : Nat} (hp : p < ps.length) (hn : (l.getD p []).length ≤ a p) : ¬ ∃ d, SatD ps E d := fun ⟨d, hd⟩ => by
  obtain ⟨i, h1, h2, _⟩ := h d hd p hp
  omega
theorem at_le (hf : listsF ps l = 0) (h : AtOk ps E l a) {d : List Int} (hd : SatD ps E d) {p : Nat} (hp : p < ps.length) : nowF l a p ≤ cAt d p := by
  obtain ⟨i, h1, h2, h3⟩ := h d hd p hp
  rw [← h3]
  exact good_mono (lst_good hf hp) i (a p) h1 h2
theorem now_rng (hf : listsF ps l = 0) (ha : ∀ p, p < ps.length → a p < (l.getD p []).length) : inRangeF ps (nowL ps.length l a) = true := (inRange_iff (nowL_len _ _ _)).2 fun p hp => by
  rw [nowL_cAt hp]
  exact good_rng (lst_good hf hp) (ha p hp)
theorem at_step (hv : validF ps = true) (hf : listsF ps l = 0) (h : AtOk ps E l a) (ha : ∀ p, p < ps.length → a p < (l.getD p []).length) :
    AtOk ps E l fun q => if nowF l a q < cAt (closeF ps (nowL ps.length l a)) q then a q + 1 else a q := fun d hd p hp => by
  obtain ⟨i, h1, h2, h3⟩ := h d hd p hp
  refine ⟨i, ?_, h2, h3⟩
  dsimp only
  split
  · rename_i hlt
    have hle := closeF_least hv hd.len hd.clo (nowL_len ps.length l a) (now_rng hf ha) (fun q hq => by rw [nowL_cAt hq]; exact at_le hf h hd hq) p hp
    by_cases e : i = a p
    · subst e
      unfold nowF at hlt
      omega
    · omega
  · exact h1
theorem at_done (hv : validF ps = true) (hN : NeedOk ps E) (hok : LstOk ps l E) (hf : listsF ps l = 0) (h : AtOk ps E l a) (ha : ∀ p, p < ps.length → a p < (l.getD p []).length) (hd : ∀ p, p < ps.length → ¬ nowF l a p < cAt (closeF ps (nowL ps.length l a)) p) :
    lostF E = false ∧ cutL ps.length (finF E) = nowL ps.length l a := by
  obtain ⟨_, hl, _⟩ := listsF_inv hf
  have hr := now_rng hf ha
  obtain ⟨c1, c2, c3⟩ := closeF_ok hv (nowL_len ps.length l a) hr
  have he : closeF ps (nowL ps.length l a) = nowL ps.length l a := cut_ext (by rw [c1, nowL_len]) fun p hp => by
    rw [c1] at hp
    have h1 := closeF_ge hv (nowL_len ps.length l a) hr p hp
    have h2 := hd p hp
    rw [nowL_cAt hp] at h1 ⊢
    omega
  have hs : SatD ps E (nowL ps.length l a) := ⟨nowL_len _ _ _, hr, by rw [closedF_iff, ← he, c3]; rfl, fun p hp => by
    have hpl : p < l.length := by omega
    have hg := good_rng (lst_good hf hp) (ha p hp)
    rw [nowL_cAt hp, hok p hpl hp _ (by unfold nowF; omega)]
    refine decide_eq_true ?_
    have hm : nowF l a p ∈ l[p] := by
      have := ha p hp
      unfold nowF
      rw [lst_get hpl] at this ⊢
      rw [List.getD_eq_getElem?_getD, List.getElem?_eq_getElem this]
      exact List.getElem_mem this
    rw [Int.toNat_of_nonneg (by unfold nowF; exact hg.1)]
    exact hm⟩
  have hlo := (lost_iff hv hN).2 ⟨_, hs⟩
  obtain ⟨f1, f2⟩ := fin_least hv hN hlo
  exact ⟨hlo, least_eq f1 hs f2 fun e he p hp => by rw [nowL_cAt hp]; exact at_le hf h he hp⟩
end
end Go.AL
end
