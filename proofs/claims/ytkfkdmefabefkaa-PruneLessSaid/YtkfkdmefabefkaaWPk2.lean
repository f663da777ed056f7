/- The packages vector and prune: Stamps, ready, Peak. No condition. -/
import Derived.Test.YtkfkdmefabefkaaWVec2
namespace Go.AL
open Go Go.RowKit
set_option maxRecDepth 4000
noncomputable def aStamps (ps : List Pr) : AV := if validF ps then .tup [aRows3 ((List.range ps.length).map (stampF ps)), ai 0] else .tup [.sl 1 [], ai 1]
theorem vector_Stamps (ps : List Pr) (hs : Sm ps) : PC Go.Proofs.Try.prog 34 [aTr ps] (aStamps ps) := by
  refine PC.enter 9 [.tmp 2, .tmp 3] [1] Go.Proofs.Try.func34 rfl rfl rfl rfl rfl (by simp) (AWp.of ?_); simp only [go_sem]
  repeat (first | ((with_reducible refine AWp.ofC ?_ ?_); (focus exact rfl); simp only [go_sem]) | ((with_reducible refine And.intro ?_ ?_); focus first | exact True.intro | omega | (intros; (with_reducible and_intros) <;> first | (with_reducible assumption) | omega; done)))
  repeat ((with_reducible refine And.intro ?_ ?_); focus first | exact True.intro | omega | (intros; (with_reducible and_intros) <;> first | (with_reducible assumption) | omega; done) | (simp; done) | (simp; omega))
  refine (trace_Valid ps hs).val.use ?_; simp only [go_sem]
  unfold aStamps
  cases hv : validF ps with
  | true =>
    repeat (first | ((with_reducible refine AWp.ofC ?_ ?_); (focus exact rfl); simp only [go_sem]) | ((with_reducible refine And.intro ?_ ?_); focus first | exact True.intro | omega | (intros; (with_reducible and_intros) <;> first | (with_reducible assumption) | omega; done)))
    repeat ((with_reducible refine And.intro ?_ ?_); focus first | exact True.intro | omega | (intros; (with_reducible and_intros) <;> first | (with_reducible assumption) | omega; done) | (simp; done) | (simp; omega))
    refine (vector_stamps ps hs hv).val.use ?_; simp only [go_sem]
    repeat (first | ((with_reducible refine AWp.ofC ?_ ?_); (focus exact rfl); simp only [go_sem]) | ((with_reducible refine And.intro ?_ ?_); focus first | exact True.intro | omega | (intros; (with_reducible and_intros) <;> first | (with_reducible assumption) | omega; done)))
    refine ret_eq ?_; simp only [go_sem]
  | false =>
    repeat (first | ((with_reducible refine AWp.ofC ?_ ?_); (focus exact rfl); simp only [go_sem]) | ((with_reducible refine And.intro ?_ ?_); focus first | exact True.intro | omega | (intros; (with_reducible and_intros) <;> first | (with_reducible assumption) | omega; done)))
    refine ret_view [] ?_; simp only [go_sem]
    exact .mkTup (Vws.cons (.nil 1) (Vws.refl _))
theorem prune_ready (ps : List Pr) (hs : Sm ps) (hv : validF ps = true) (c : Nat → Nat) (hc : ∀ q, c q ≤ 1000000) (p : Nat) (hp : p < ps.length) :
    PC Go.Proofs.Try.prog 36 [aTr ps, .sl 1 ((List.range ps.length).map fun q => ai (c q)), ai p] (ab (decide (Rdy ps c p))) := by
  obtain ⟨hl1, hl8⟩ := valid_len hv
  have hel := hs.evs _ (List.getElem_mem hp)
  have hgd : ∀ q : Nat, q < ps.length → (List.map (fun q => ai (c q)) (List.range ps.length)).getD q .any = ai (c q) := fun q hq => map_range_getD hq _
  have hgp := hgd p hp
  have hcp := hc p
  have hnp := nev_get hp
  refine PC.enter 55 [.tmp 6] [3, 7, 8] Go.Proofs.Try.func36 rfl rfl rfl rfl rfl (by simp) (AWp.of ?_); simp only [go_sem]
  refine AWp.seq (AWp.seq ?_)
  refine AWp.drawn mixed 11 (by kernel_rfl) ?_; simp only [go_sem, hgp, getD_map hp, List.length_range]
  repeat ((with_reducible refine And.intro ?_ ?_); focus first | exact True.intro | omega | (intros; (with_reducible and_intros) <;> first | (with_reducible assumption) | omega; done) | (simp; done) | (simp; omega))
  repeat (first | ((with_reducible refine AWp.ofC ?_ ?_); (focus exact rfl); simp only [go_sem]) | ((with_reducible refine And.intro ?_ ?_); focus first | exact True.intro | omega | (intros; (with_reducible and_intros) <;> first | (with_reducible assumption) | omega; done)))
  refine ⟨fun h1 => ?_, fun h1 => ?_⟩
  · repeat (first | ((with_reducible refine AWp.ofC ?_ ?_); (focus exact rfl); simp only [go_sem]) | ((with_reducible refine And.intro ?_ ?_); focus first | exact True.intro | omega | (intros; (with_reducible and_intros) <;> first | (with_reducible assumption) | omega; done)))
    refine ret_eq ?_; simp only [go_sem]
    rw [decide_eq_false (show ¬ Rdy ps c p from fun h => by have := h.2.1; omega)]
  · have hk : c p < ps[p].evs.length := by omega
    have heq := evq_get hp hk
    have hfv : findV ps 2 ps[p].evs[c p].msg = sndr ps ps[p].evs[c p].msg := by unfold findV; rw [hv]; rfl
    have hsn := trace_Sender ps hs ps[p].evs[c p].msg
    rw [hfv] at hsn
    obtain ⟨hf1, hf2⟩ := findIn_proc hl1 2 ps[p].evs[c p].msg
    have hgs := hgd (sndr ps ps[p].evs[c p].msg).1.toNat (by unfold sndr; omega)
    have hse : sndr ps ps[p].evs[c p].msg = findIn (evIds ps) 2 ps[p].evs[c p].msg := rfl
    rw [← hse] at hf1 hf2
    have hrd : Rdy ps c p ↔ (ps[p].evs[c p].kind = 3 → 0 < (sndr ps ps[p].evs[c p].msg).2 ∧ (sndr ps ps[p].evs[c p].msg).2 ≤ c (sndr ps ps[p].evs[c p].msg).1.toNat) := by
      unfold Rdy
      rw [heq]
      exact ⟨fun h => h.2.2, fun h => ⟨hp, by omega, h⟩⟩
    have hgk := getD_map (f := aEv) hk
    generalize ps[p].evs[c p] = e at *
    generalize sndr ps e.msg = s at *
    refine AWp.seq ?_
    refine AWp.mix mixed [0, 1, 2, 3, 4, 5, 6, 7, 8, 9, 10, 11] (.step 12 (.step 13 .done .done) .done) (by kernel_rfl) ?_; simp only [go_sem, hgp, hgk, getD_map hp, List.length_range]
    repeat ((with_reducible refine And.intro ?_ ?_); focus first | exact True.intro | omega | (intros; (with_reducible and_intros) <;> first | (with_reducible assumption) | omega; done) | (simp; done) | (simp; omega))
    intro b8
    repeat (first | ((with_reducible refine AWp.ofC ?_ ?_); (focus exact rfl); simp only [go_sem]) | ((with_reducible refine And.intro ?_ ?_); focus first | exact True.intro | omega | (intros; (with_reducible and_intros) <;> first | (with_reducible assumption) | omega; done)))
    refine ⟨fun h2 => ?_, fun h2 => ?_⟩
    · repeat (first | ((with_reducible refine AWp.ofC ?_ ?_); (focus exact rfl); simp only [go_sem]) | ((with_reducible refine And.intro ?_ ?_); focus first | exact True.intro | omega | (intros; (with_reducible and_intros) <;> first | (with_reducible assumption) | omega; done)))
      refine ret_eq ?_; simp only [go_sem]
      rw [decide_eq_true (hrd.2 fun h => absurd h h2)]
    · repeat (first | ((with_reducible refine AWp.ofC ?_ ?_); (focus exact rfl); simp only [go_sem]) | ((with_reducible refine And.intro ?_ ?_); focus first | exact True.intro | omega | (intros; (with_reducible and_intros) <;> first | (with_reducible assumption) | omega; done)))
      repeat ((with_reducible refine And.intro ?_ ?_); focus first | exact True.intro | omega | (intros; (with_reducible and_intros) <;> first | (with_reducible assumption) | omega; done) | (simp; done) | (simp; omega))
      refine (hsn).val.use ?_; simp only [go_sem]
      repeat ((with_reducible refine And.intro ?_ ?_); focus first | exact True.intro | omega | (intros; (with_reducible and_intros) <;> first | (with_reducible assumption) | omega; done) | (simp; done) | (simp; omega))
      intro b9
      refine AWp.seq ?_
      refine AWp.drawn mixed 10 (by kernel_rfl) ?_; simp only [go_sem, hgs, List.length_range]
      repeat (first | ((with_reducible refine AWp.ofC ?_ ?_); (focus exact rfl); simp only [go_sem]) | ((with_reducible refine And.intro ?_ ?_); focus first | exact True.intro | omega | (intros; (with_reducible and_intros) <;> first | (with_reducible assumption) | omega; done)))
      refine ret_eq ?_; simp only [go_sem]
      have : decide (Rdy ps c p) = (decide (0 < s.2) && decide (s.2 ≤ c s.1.toNat)) := by
        rw [← Bool.decide_and]; exact decide_eq_decide.2 (hrd.trans ⟨fun h => h h2, fun h _ => h⟩)
      rw [this]
theorem prune_Peak1 (p : Int) (n : Nat) : PC Go.Proofs.Try.prog 35 [ai p, .rp 1 [ai n] 0 0] (ab (decide (p < 0) || decide ((n : Int) ≤ p))) := by
  refine PC.enter 11 [.tmp 3] [] Go.Proofs.Try.func35 rfl rfl rfl rfl rfl (by simp) (AWp.of ?_); simp only [go_sem]
  repeat (first | ((with_reducible refine AWp.ofC ?_ ?_); (focus exact rfl); simp only [go_sem]) | ((with_reducible refine And.intro ?_ ?_); focus first | exact True.intro | omega | (intros; (with_reducible and_intros) <;> first | (with_reducible assumption) | omega; done)))
  refine ret_eq ?_; simp only [go_sem]
theorem Vws.set {L : AHeap} {xs ys : List AV} {a b : AV} (h : Vws L xs ys) (hab : Vw L a b) (i : Nat) : Vws L (xs.set i a) (ys.set i b) := by
  refine ⟨by rw [List.length_set, List.length_set]; exact h.1, fun j x y hx hy => ?_⟩
  rw [List.getElem?_set] at hx hy
  by_cases e : i = j
  · subst e
    rw [if_pos rfl] at hx hy
    split at hx
    · split at hy
      · cases hx; cases hy; exact hab
      · cases hy
    · cases hx
  · rw [if_neg e] at hx hy; exact h.2 j x y hx hy
def knA (n : Nat) (f : Nat → List Int) : List AV := (List.range n).map fun q => .sl 1 ((f q).map ai)
def dnA (n : Nat) (c : Nat → Nat) : List AV := (List.range n).map fun q => ai (c q)
noncomputable def knQ (ps : List Pr) (order : List Int) (k q : Nat) : List Int := if doneF order k q = 0 then List.replicate ps.length 0 else stOf (stampF ps) q (doneF order k q - 1)
theorem knA_known (ps : List Pr) (order : List Int) (k : Nat) : (knownF ps order k).map aInts = knA ps.length (knQ ps order k) := by
  unfold knownF knA knQ
  rw [List.map_map]; rfl
theorem knA_length (n : Nat) (f : Nat → List Int) : (knA n f).length = n := by simp [knA]
theorem dnA_length (n : Nat) (c : Nat → Nat) : (dnA n c).length = n := by simp [dnA]
theorem knA_set {n p : Nat} {f f' : Nat → List Int} {x : List Int} (hx : f' p = x) (ho : ∀ q, q ≠ p → f' q = f q) : (knA n f).set p (.sl 1 (x.map ai)) = knA n f' := by
  unfold knA
  rw [map_range_set]; congr 1; funext q
  by_cases e : q = p
  · rw [if_pos e, e, hx]
  · rw [if_neg e, ho q e]
theorem dnA_set {n p : Nat} {c c' : Nat → Nat} {x : Int} (hx : (c' p : Int) = x) (ho : ∀ q, q ≠ p → c' q = c q) : (dnA n c).set p (ai x) = dnA n c' := by
  unfold dnA
  rw [map_range_set]; congr 1; funext q
  by_cases e : q = p
  · rw [if_pos e, e, hx]
  · rw [if_neg e, ho q e]
theorem dnA_get {n p : Nat} (hp : p < n) (c : Nat → Nat) : (dnA n c).getD p .any = ai (c p) := map_range_getD hp _
def badP (n : Nat) (p : Int) : Bool := decide (p < 0) || decide ((n : Int) ≤ p)
open Classical in
noncomputable def aPeak (ps : List Pr) (order : List Int) : AV :=
  if validF ps = false then .tup [ai 0, ai 1] else if order.any (badP ps.length) = true then .tup [ai 0, ai 2] else if RunOk ps order order.length then .tup [ai (peakF ps order order.length), ai 0] else .tup [ai 0, ai 11]
theorem prune_Peak (ps : List Pr) (hs : Sm ps) (order : List Int) (ho : order.length ≤ 1000000) : PC Go.Proofs.Try.prog 19 [aTr ps, aInts order] (aPeak ps order) := by
  have hst := vector_Stamps ps hs
  unfold aStamps at hst
  cases hv : validF ps with
  | false =>
    have e : aPeak ps order = .tup [ai 0, ai 1] := by unfold aPeak; rw [if_pos hv]
    rw [e]
    rw [hv] at hst
    have h10 : ¬ (1 : Int) = 0 := by decide
    refine PC.enter 80 [.tmp 4, .tmp 5] [2, 8] Go.Proofs.Try.func19 rfl rfl rfl rfl rfl (by simp) (AWp.of ?_); simp only [go_sem]
    repeat (first | ((with_reducible refine AWp.ofC ?_ ?_); (focus exact rfl); simp only [go_sem]) | ((with_reducible refine And.intro ?_ ?_); focus first | exact True.intro | omega | (intros; (with_reducible and_intros) <;> first | (with_reducible assumption) | omega; done)))
    repeat ((with_reducible refine And.intro ?_ ?_); focus first | exact True.intro | omega | (intros; (with_reducible and_intros) <;> first | (with_reducible assumption) | omega; done) | (simp; done) | (simp; omega))
    refine (hst).val.use ?_; simp only [go_sem, h10]
    repeat (first | ((with_reducible refine AWp.ofC ?_ ?_); (focus exact rfl); simp only [go_sem, h10]) | ((with_reducible refine And.intro ?_ ?_); focus first | exact True.intro | omega | (intros; (with_reducible and_intros) <;> first | (with_reducible assumption) | omega; done)))
    refine ret_eq ?_; simp only [go_sem]
  | true =>
    obtain ⟨hl1, hl8⟩ := valid_len hv
    obtain ⟨hG, hmx⟩ := stampF_gen hs
    rw [hv, if_pos rfl] at hst
    refine PC.enter 80 [.tmp 4, .tmp 5] [2, 8] Go.Proofs.Try.func19 rfl rfl rfl rfl rfl (by simp) (AWp.of ?_); simp only [go_sem]
    repeat (first | ((with_reducible refine AWp.ofC ?_ ?_); (focus exact rfl); simp only [go_sem]) | ((with_reducible refine And.intro ?_ ?_); focus first | exact True.intro | omega | (intros; (with_reducible and_intros) <;> first | (with_reducible assumption) | omega; done)))
    repeat ((with_reducible refine And.intro ?_ ?_); focus first | exact True.intro | omega | (intros; (with_reducible and_intros) <;> first | (with_reducible assumption) | omega; done) | (simp; done) | (simp; omega))
    refine (hst).val.use ?_; simp only [go_sem]
    repeat (first | ((with_reducible refine AWp.ofC ?_ ?_); (focus exact rfl); simp only [go_sem]) | ((with_reducible refine And.intro ?_ ?_); focus first | exact True.intro | omega | (intros; (with_reducible and_intros) <;> first | (with_reducible assumption) | omega; done)))
    intro b8
    repeat (first | ((with_reducible refine AWp.ofC ?_ ?_); (focus exact rfl); simp only [go_sem]) | ((with_reducible refine And.intro ?_ ?_); focus first | exact True.intro | omega | (intros; (with_reducible and_intros) <;> first | (with_reducible assumption) | omega; done)))
    repeat ((with_reducible refine And.intro ?_ ?_); focus first | exact True.intro | omega | (intros; (with_reducible and_intros) <;> first | (with_reducible assumption) | omega; done) | (simp; done) | (simp; omega))
    refine (ints_containsFunc order ho (.clo 35 [.rp 1 [ai ps.length] 0 0]) rfl (badP ps.length) fun p _ => (prune_Peak1 p ps.length).clo).val.use ?_; simp only [go_sem]
    have hbad : order.any (badP ps.length) = false → ∀ j, j < order.length → 0 ≤ order.getD j 0 ∧ order.getD j 0 < ps.length := fun h j hj => by
      have := List.any_eq_false.1 h _ (List.getElem_mem hj)
      have e : order.getD j 0 = order[j] := by simp [hj]
      rw [e]
      simp [badP] at this
      omega
    repeat (first | ((with_reducible refine AWp.ofC ?_ ?_); (focus exact rfl); simp only [go_sem]) | ((with_reducible refine And.intro ?_ ?_); focus first | exact True.intro | omega | (intros; (with_reducible and_intros) <;> first | (with_reducible assumption) | omega; done)))
    refine ⟨fun h1 => ?_, fun h1 => ?_⟩
    · have e : aPeak ps order = .tup [ai 0, ai 2] := by unfold aPeak; rw [if_neg (by rw [hv]; decide), if_pos h1]
      rw [e]
      repeat (first | ((with_reducible refine AWp.ofC ?_ ?_); (focus exact rfl); simp only [go_sem]) | ((with_reducible refine And.intro ?_ ?_); focus first | exact True.intro | omega | (intros; (with_reducible and_intros) <;> first | (with_reducible assumption) | omega; done)))
      refine ret_eq ?_; simp only [go_sem]
    · have hob := hbad h1
      refine AWp.cut [1, 2, 6, 8, 9, 10] (fun vs L => ∃ bd bk, L.Perm [(bk, .row 25 1 (List.replicate ps.length anil) ps.length), (bd, .row 3 1 (List.replicate ps.length (ai 0)) ps.length)] ∧
        vs = [aInts order, .rp 1 [aTr ps] 0 0, aRows3 ((List.range ps.length).map (stampF ps)), .rp 1 [ai ps.length] 0 0, .ls bd 1 0 ps.length ps.length, .ls bk 1 0 ps.length ps.length]) ?_ ?_
      · refine AWp.mix mixed [0, 2] (.step 1 (.step 3 (.step 4 (.step 5 .done .done) .done) (.step 4 (.step 3 (.step 5 .done .done) .done) .done)) (.step 3 (.step 1 (.step 4 (.step 5 .done .done) .done) .done) .done)) (by kernel_rfl) ?_; simp only [go_sem]
        repeat' (first | (with_reducible refine And.intro ?_ ?_) | intro _)
        all_goals first | omega | exact ⟨_, List.Sublist.refl _, _, _, .refl _, rfl⟩ | exact ⟨_, List.Sublist.refl _, _, _, .swap _ _ _, rfl⟩
      · rintro vs L - ⟨bd, bk, hP, rfl⟩
        refine AWp.perm hP (AWp.nodup fun hnd => ?_)
        have n1 : ¬ bk = bd := by simpa using hnd
        have n2 : ¬ bd = bk := fun e => n1 e.symm
        have hL0 : List.replicate ps.length anil = (List.range ps.length).map fun q => if q < 0 then AV.sl 1 ((List.replicate ps.length (0 : Int)).map ai) else anil := by
          apply List.ext_getElem (by simp); intro i h1 h2; simp
        have hD0 : List.replicate ps.length (ai 0) = dnA ps.length (doneF order 0) := by
          unfold dnA; apply List.ext_getElem (by simp); intro i h1 h2; simp [doneF_zero]
        simp only [go_sem]
        repeat ((with_reducible refine And.intro ?_ ?_); focus first | exact True.intro | omega | (intros; (with_reducible and_intros) <;> first | (with_reducible assumption) | omega; done) | (simp; done) | (simp; omega))
        refine AWp.of ?_; simp only [go_sem]
        rw [hL0, hD0]
        refine AWp.range' ps.length [] [1, 2, 6, 8, 9, 10, 34] (fun k vs L => L = [(bk, .row 25 1 ((List.range ps.length).map fun q => if q < k then AV.sl 1 ((List.replicate ps.length (0 : Int)).map ai) else anil) ps.length), (bd, .row 3 1 (dnA ps.length (doneF order 0)) ps.length)]) (by omega) rfl rfl rfl rfl ?_ ?_
        · rintro k vs L' hk - rfl
          have hgk : ((List.range ps.length).map fun q => if q < k then AV.sl 1 ((List.replicate ps.length (0 : Int)).map ai) else anil).getD k .any = anil := by rw [map_range_getD hk, if_neg (Nat.lt_irrefl k)]
          simp only [go_sem]
          repeat ((with_reducible refine And.intro ?_ ?_); focus first | exact True.intro | omega | (intros; (with_reducible and_intros) <;> first | (with_reducible assumption) | omega; done) | (simp; done) | (simp; omega))
          refine AWp.of ?_; simp only [go_sem]
          refine AWp.postV ?_
          repeat ((with_reducible refine And.intro ?_ ?_); focus first | exact True.intro | omega | (intros; (with_reducible and_intros) <;> first | (with_reducible assumption) | omega; done) | (simp; done) | (simp; omega))
          refine AWp.of ?_; simp only [go_sem, n1, n2, hgk, List.length_range]
          repeat ((with_reducible refine And.intro ?_ ?_); focus first | exact True.intro | omega | (intros; (with_reducible and_intros) <;> first | (with_reducible assumption) | omega; done) | (simp; done) | (simp; omega))
          intro bn g1 g2
          have m1 : ¬ bk = bn := by omega
          simp only [go_sem, m1, hgk, List.length_range]
          repeat ((with_reducible refine And.intro ?_ ?_); focus first | exact True.intro | omega | (intros; (with_reducible and_intros) <;> first | (with_reducible assumption) | omega; done) | (simp; done) | (simp; omega))
          refine ⟨[(bn, .row 3 1 (List.replicate ps.length (ai 0)) ps.length)], [_, _], _, .refl _, .row (Vws.set (Vws.refl _) (Vw.ofLs (t := 3) (cap := ps.length) (xs := List.replicate ps.length (ai 0)) (by simp only [lk, if_true]) (by rw [List.length_replicate])) k) (LVw.refl _), _, List.Sublist.refl _, ?_⟩
          rw [map_range_set]
          congr 4
          funext q
          by_cases e : q = k
          · rw [if_pos e, if_pos (by omega), List.map_replicate]
          · rw [if_neg e]
            by_cases e2 : q < k
            · rw [if_pos e2, if_pos (by omega)]
            · rw [if_neg e2, if_neg (by omega)]
        · rintro vs L' - rfl
          have hK0 : ((List.range ps.length).map fun q => if q < ps.length then AV.sl 1 ((List.replicate ps.length (0 : Int)).map ai) else anil) = knA ps.length (knQ ps order 0) := by
            unfold knA
            apply List.ext_getElem (by simp); intro i h1 h2
            have hi : i < ps.length := by simpa using h1
            simp [knQ, doneF_zero, hi]
          simp only [go_sem]
          rw [hK0]
          repeat (first | ((with_reducible refine AWp.ofC ?_ ?_); (focus exact rfl); simp only [go_sem]) | ((with_reducible refine And.intro ?_ ?_); focus first | exact True.intro | omega | (intros; (with_reducible and_intros) <;> first | (with_reducible assumption) | omega; done)))
          refine AWp.range' order.length [12] [2, 6, 9, 10, 44, 45] (fun k vs L => vs = [ai (peakF ps order k)] ∧ RunOk ps order k ∧ L = [(bk, .row 25 1 (knA ps.length (knQ ps order k)) ps.length), (bd, .row 3 1 (dnA ps.length (doneF order k)) ps.length)])
            (by omega) rfl rfl rfl ⟨rfl, fun j hj => by omega, rfl⟩ ?_ ?_
          · rintro k vs L' hk - ⟨rfl, hR, rfl⟩
            obtain ⟨o1, o2⟩ := hob k hk
            have hgo : (order.map ai).getD k .any = ai (order.getD k 0) := by rw [getD_map hk]; simp [hk]
            have hdk0 : ∀ k, k ≤ order.length → RunOk ps order k → ∀ q, doneF order k q ≤ 1000000 := fun k hk hR q => by
              have := run_le hmx hk hR q
              have h2 := hG.le_nev q
              by_cases hq : q < ps.length
              · rw [nev_get hq] at h2
                have := hs.evs _ (List.getElem_mem hq); omega
              · rw [hG.out hq] at this; simp at this; omega
            have hdk := hdk0 k (by omega) hR
            have hok : RunOk ps order (k + 1) ↔ Rdy ps (doneF order k) (order.getD k 0).toNat := ⟨fun h => (h k (by omega)).2, fun h j hj => by
              by_cases e : j = k
              · subst e; exact ⟨o1, h⟩
              · exact hR j (by omega)⟩
            have hds := fun q => doneF_succ (order := order) hk o1 q
            obtain ⟨p, hpe⟩ : ∃ p : Nat, order.getD k 0 = (p : Int) := ⟨(order.getD k 0).toNat, by omega⟩
            rw [hpe] at hgo hok hds o2
            simp only [Int.toNat_natCast] at hok hds
            have hp : p < ps.length := by omega
            simp only [go_sem]
            repeat ((with_reducible refine And.intro ?_ ?_); focus first | exact True.intro | omega | (intros; (with_reducible and_intros) <;> first | (with_reducible assumption) | omega; done) | (simp; done) | (simp; omega))
            refine AWp.of ?_; simp only [go_sem, hgo]
            repeat (first | ((with_reducible refine AWp.ofC ?_ ?_); (focus exact rfl); simp only [go_sem]) | ((with_reducible refine And.intro ?_ ?_); focus first | exact True.intro | omega | (intros; (with_reducible and_intros) <;> first | (with_reducible assumption) | omega; done)))
            refine (PC.view (L := [(bk, .row 25 1 (knA ps.length (knQ ps order k)) ps.length), (bd, .row 3 1 (dnA ps.length (doneF order k)) ps.length)])
              (Vws.cons (.refl _) (Vws.cons (Vw.ofLs (t := 3) (cap := ps.length) (xs := dnA ps.length (doneF order k)) (by simp [lk, n2]) (dnA_length _ _).symm) (Vws.cons (.refl _) .nil))) (prune_ready ps hs hv (doneF order k) hdk p hp) (Own.v _) ?_).val
            simp only [go_sem]
            repeat (first | ((with_reducible refine AWp.ofC ?_ ?_); (focus exact rfl); simp only [go_sem]) | ((with_reducible refine And.intro ?_ ?_); focus first | exact True.intro | omega | (intros; (with_reducible and_intros) <;> first | (with_reducible assumption) | omega; done)))
            refine ⟨fun h2 => ?_, fun h2 => ?_⟩
            · have e : aPeak ps order = .tup [ai 0, ai 11] := by
                unfold aPeak
                rw [if_neg (by rw [hv]; decide), if_neg (by rw [h1]; decide), if_neg fun h => ?_]
                have := hok.1 (h.le (by omega))
                exact h2 this
              rw [e]
              repeat (first | ((with_reducible refine AWp.ofC ?_ ?_); (focus exact rfl); simp only [go_sem]) | ((with_reducible refine And.intro ?_ ?_); focus first | exact True.intro | omega | (intros; (with_reducible and_intros) <;> first | (with_reducible assumption) | omega; done)))
              refine ret_eq ?_; simp only [go_sem]
            · have hR' := hok.2 h2
              have hlt : doneF order k p < (stampF ps p).length := by
                have := run_le hmx (by omega) hR' p
                rw [hds, if_pos rfl] at this; omega
              have hgs : (List.map aRows (List.map (stampF ps) (List.range ps.length))).getD p .any = aRows (stampF ps p) := by
                rw [getD_map (by simpa using hp)]; simp
              have hgd := dnA_get hp (doneF order k)
              have hgv : ((stampF ps p).map aInts).getD (doneF order k p) .any = aInts (stOf (stampF ps) p (doneF order k p)) := by
                rw [getD_map hlt]; simp [stOf, hlt]
              have hgk : (knA ps.length (knQ ps order k)).getD p .any = .sl 1 ((knQ ps order k p).map ai) := map_range_getD hp _
              have hset1 := knA_set (n := ps.length) (p := p) (f := knQ ps order k) (f' := knQ ps order (k + 1)) (x := stOf (stampF ps) p (doneF order k p)) (by unfold knQ; rw [hds, if_pos rfl, if_neg (by omega)]; rfl)
                (fun q hq => by unfold knQ; rw [hds, if_neg (Ne.symm hq)]; rfl)
              have hset2 := dnA_set (n := ps.length) (p := p) (c := doneF order k) (c' := doneF order (k + 1)) (x := (doneF order k p : Int) + 1) (by rw [hds, if_pos rfl]; omega) (fun q hq => by rw [hds, if_neg (Ne.symm hq)]; rfl)
              have hdp := hdk p
              have hrows := known_rows hG hmx (by omega) hR'
              have hkept := prune_kept (knownF ps order (k + 1)) (by rw [known_len]; omega) (by rw [known_len]; omega) (fun r hr => by rw [known_len]; exact (hrows r hr).1) (fun r hr n hn => by
                obtain ⟨j, hj, rfl⟩ := List.getElem_of_mem hn
                have h5 := (hrows r hr).2 j
                have e5 : r.getD j 0 = r[j] := by simp [hj]
                rw [e5] at h5
                have h6 := hdk0 (k + 1) (by omega) hR' j
                omega)
              have e6 : aRows (knownF ps order (k + 1)) = .sl 1 (knA ps.length (knQ ps order (k + 1))) := by rw [← knA_known]; rfl
              rw [e6] at hkept
              refine AWp.seq ?_
              refine AWp.mix mixed [0, 1, 2, 3, 4, 5, 6, 7, 8] (.step 9 (.step 10 (.step 11 (.step 12 (.step 13 .done .done) .done) .done) .done) .done) (by kernel_rfl) ?_; simp only [go_sem, hgs, hgd, hgv, hgk, dnA_length, knA_length, n1, n2]
              repeat ((with_reducible refine And.intro ?_ ?_); focus first | exact True.intro | omega | (intros; (with_reducible and_intros) <;> first | (with_reducible assumption) | omega; done) | (simp; done) | (simp; omega))
              rw [hset1]
              repeat ((with_reducible refine And.intro ?_ ?_); focus first | exact True.intro | omega | (intros; (with_reducible and_intros) <;> first | (with_reducible assumption) | omega; done) | (simp; done) | (simp; omega))
              refine AWp.of ?_; simp only [go_sem, hgd, dnA_length, n1, n2]
              repeat ((with_reducible refine And.intro ?_ ?_); focus first | exact True.intro | omega | (intros; (with_reducible and_intros) <;> first | (with_reducible assumption) | omega; done) | (simp; done) | (simp; omega))
              rw [hset2]
              repeat (first | ((with_reducible refine AWp.ofC ?_ ?_); (focus exact rfl); simp only [go_sem]) | ((with_reducible refine And.intro ?_ ?_); focus first | exact True.intro | omega | (intros; (with_reducible and_intros) <;> first | (with_reducible assumption) | omega; done)))
              refine (PC.view (L := [(bk, .row 25 1 (knA ps.length (knQ ps order (k + 1))) ps.length), (bd, .row 3 1 (dnA ps.length (doneF order (k + 1))) ps.length)])
                (Vws.cons (Vw.ofLs (t := 25) (cap := ps.length) (xs := knA ps.length (knQ ps order (k + 1))) (by simp only [lk, if_true]) (knA_length _ _).symm) .nil) hkept (Own.v _) ?_).val
              have hmax : peakF ps order (k + 1) = if peakF ps order k < keptF (knownF ps order (k + 1)) then keptF (knownF ps order (k + 1)) else peakF ps order k := by
                show max (peakF ps order k) (keptF (knownF ps order (k + 1))) = _
                split <;> omega
              simp only [go_sem]
              exact ⟨_, List.Sublist.refl _, by rw [hmax], hR', rfl⟩
          · rintro vs L' - ⟨rfl, hR, rfl⟩
            have e : aPeak ps order = .tup [ai (peakF ps order order.length), ai 0] := by
              unfold aPeak
              rw [if_neg (by rw [hv]; decide), if_neg (by rw [h1]; decide), if_pos hR]
            rw [e]
            simp only [go_sem]
            repeat (first | ((with_reducible refine AWp.ofC ?_ ?_); (focus exact rfl); simp only [go_sem]) | ((with_reducible refine And.intro ?_ ?_); focus first | exact True.intro | omega | (intros; (with_reducible and_intros) <;> first | (with_reducible assumption) | omega; done)))
            refine ret_eq ?_; simp only [go_sem]
end Go.AL
