/- Texts of this claim's proof: WVb, WJn, WPw, WPw2, WTl, WTm. No condition. -/
import Derived.Test.YtkfkdmefabefkaaGreatDoorM11
import Derived.Test.YtkfkdmefabefkaaGreatDoorM7
import Derived.Test.YtkfkdmefabefkaaGreatDoorM6
import Derived.Test.YtkfkdmefabefkaaGreatDoorM9
import Derived.Test.YtkfkdmefabefkaaGreatDoorM10
section
/- The truth of a predicate at a cut: evaluate.Bool. No condition. -/
namespace Go.AL
open Go Go.RowKit
set_option maxRecDepth 4000
theorem evaluate_typed (t : Pd) (hz : szF t ≤ 1000000) (h1 : formedB t = true) (h2 : typedB t = true) (w : Int) : PC Go.Proofs.Tryz.prog 92 [aPd t, ai w] (ai (if resF t.kind = w then 0 else 14)) := by
  have ht := predtype_TypeX t hz
  rw [h1, h2] at ht
  rw [if_neg (by decide), if_neg (by decide), if_neg (by decide), if_neg (by decide)] at ht
  generalize resF t.kind = r at *
  obtain ⟨k, n, p, q, s, l⟩ := t
  simp only [aPd_mk] at *
  refine PC.enter 19 [.tmp 4] [2] Go.Proofs.Tryz.func92 rfl rfl rfl rfl rfl (by simp) (AWp.of ?_); simp only [go_sem]
  repeat (first | ((with_reducible refine AWp.ofC ?_ ?_); (focus exact rfl); simp only [go_sem]) | ((with_reducible refine an ?_ ?_); focus exact Au))
  repeat ((with_reducible refine an ?_ ?_); focus exact As)
  refine (ht).val.use ?_; simp only [go_sem]
  repeat (first | ((with_reducible refine AWp.ofC ?_ ?_); (focus exact rfl); simp only [go_sem]) | ((with_reducible refine an ?_ ?_); focus exact Au))
  refine ⟨fun h3 => ?_, fun h3 => ?_⟩
  · repeat (first | ((with_reducible refine AWp.ofC ?_ ?_); (focus exact rfl); simp only [go_sem]) | ((with_reducible refine an ?_ ?_); focus exact Au))
    refine ret_eq ?_; simp only [go_sem]
    rw [if_neg h3]
  · repeat (first | ((with_reducible refine AWp.ofC ?_ ?_); (focus exact rfl); simp only [go_sem]) | ((with_reducible refine an ?_ ?_); focus exact Au))
    refine ret_eq ?_; simp only [go_sem]
    rw [if_pos h3]
theorem predtype_temporal (k : Int) : PC Go.Proofs.Tryz.prog 135 [ai k] (ab (decide (18 ≤ k ∧ k ≤ 21))) := by
  generalize hb : decide (18 ≤ k ∧ k ≤ 21) = b
  refine PC.enter 9 [.tmp 2] [] Go.Proofs.Tryz.func135 rfl rfl rfl rfl rfl (by simp) (AWp.of ?_); simp only [go_sem]
  repeat (first | ((with_reducible refine AWp.ofC ?_ ?_); (focus exact rfl); simp only [go_sem]) | ((with_reducible refine an ?_ ?_); focus exact Au))
  refine ret_eq ?_; simp only [go_sem]
  rw [← hb]
  congr 2
  rw [Bool.eq_iff_iff]; simp
theorem predtype_Temporal1 (x : Pd) : PC Go.Proofs.Tryz.prog 134 [aPd x] (ab (ntmB x)) := by
  obtain ⟨k, n, p, q, s, l⟩ := x
  have h := predtype_temporal k
  have hsp : ntmB (.mk k n p q s l) = !decide (18 ≤ k ∧ k ≤ 21) := rfl
  rw [hsp]
  generalize decide (18 ≤ k ∧ k ≤ 21) = b at *
  refine PC.enter 7 [.tmp 2] [1] Go.Proofs.Tryz.func134 rfl rfl rfl rfl rfl (by simp) (AWp.of ?_); simp only [go_sem]
  repeat (first | ((with_reducible refine AWp.ofC ?_ ?_); (focus exact rfl); simp only [go_sem]) | ((with_reducible refine an ?_ ?_); focus exact Au))
  repeat ((with_reducible refine an ?_ ?_); focus exact As)
  refine (h).val.use ?_; simp only [go_sem]
  repeat (first | ((with_reducible refine AWp.ofC ?_ ?_); (focus exact rfl); simp only [go_sem]) | ((with_reducible refine an ?_ ?_); focus exact Au))
  refine ret_eq ?_; simp only [go_sem]
theorem predtype_Temporal (t : Pd) (hz : szF t ≤ 1000000) : PC Go.Proofs.Tryz.prog 93 [aPd t] (ab (formedB t && !allB ntmB t)) := by
  have hf := predtype_formed t hz
  have he := predtype_eachV ntmB 134 (fun x hx => (predtype_Temporal1 x).val) t hz
  generalize formedB t = f at *
  generalize allB ntmB t = a at *
  obtain ⟨k, n, p, q, s, l⟩ := t
  simp only [aPd_mk] at *
  refine PC.enter 10 [.tmp 2] [1] Go.Proofs.Tryz.func93 rfl rfl rfl rfl rfl (by simp) (AWp.of ?_); simp only [go_sem]
  repeat (first | ((with_reducible refine AWp.ofC ?_ ?_); (focus exact rfl); simp only [go_sem]) | ((with_reducible refine an ?_ ?_); focus exact Au))
  repeat ((with_reducible refine an ?_ ?_); focus exact As)
  refine (hf).val.use ?_; simp only [go_sem]
  repeat ((with_reducible refine an ?_ ?_); focus exact As)
  refine GCall.use (ab a) (fun _ => ⟨At, (he).val.use ⟨rfl, rfl⟩⟩) ?_; simp only [go_sem]
  repeat ((with_reducible refine an ?_ ?_); focus exact As)
  repeat (first | ((with_reducible refine AWp.ofC ?_ ?_); (focus exact rfl); simp only [go_sem]) | ((with_reducible refine an ?_ ?_); focus exact Au))
  refine ret_eq ?_; simp only [go_sem]
/-! ### What is seen at a cut -/
noncomputable def atE (ps : List Pr) (c : List Int) (t : Pd) (w : Int) : Int :=
  if c.length ≠ ps.length then 1 else if checkF ps t ≠ 0 then checkF ps t else if givenF ps [c] [] ≠ 0 then givenF ps [c] [] else if resF t.kind ≠ w then 14 else if allB ntmB t = false then 15 else 0
open Classical in
noncomputable def atV (ps : List Pr) (c : List Int) (t : Pd) : AV := if c.length ≠ ps.length ∨ checkF ps t ≠ 0 ∨ givenF ps [c] [] ≠ 0 then aView [] [] [] else aView ps c (valuesAt ps c)
theorem vw_view0 (L : AHeap) : Vw L (.agg [anil, anil, anil]) (aView [] [] []) := .mkAgg (Vws.cons (.nil 3) (Vws.cons (.nil 1) (Vws.cons (.nil 1) .nil)))
theorem evaluate_at (ps : List Pr) (hs : Sm ps) (c : List Int) (hcl : c.length ≤ 1000000) (t : Pd) (hz : szF t ≤ 1000000) (w : Int) : PC Go.Proofs.Tryz.prog 59 [aTr ps, aInts c, aPd t, ai w] (.tup [atV ps c t, ai (atE ps c t w)]) := by
  have h1 := predtype_Check ps hs t hz
  have h2 := variable_At ps hs c hcl
  have h3 := fun a b => evaluate_typed t hz a b w
  have h3' : checkF ps t = 0 → typedB t = true := fun h => by
    have := (checkF_zero h).2.2.1
    unfold okT at this; simp only [Bool.and_eq_true] at this; exact this.2
  have h4 := predtype_Temporal t hz
  have h4' : checkF ps t = 0 → formedB t = true := fun h => (checkF_zero h).2.1
  have hE : atE ps c t w = if c.length ≠ ps.length then 1 else if checkF ps t ≠ 0 then checkF ps t else if givenF ps [c] [] ≠ 0 then givenF ps [c] [] else if resF t.kind ≠ w then 14 else if allB ntmB t = false then 15 else 0 := rfl
  have hV1 : (c.length ≠ ps.length ∨ checkF ps t ≠ 0 ∨ givenF ps [c] [] ≠ 0) → atV ps c t = aView [] [] [] := fun h => by unfold atV; rw [if_pos h]
  have hV2 : ¬ (c.length ≠ ps.length ∨ checkF ps t ≠ 0 ∨ givenF ps [c] [] ≠ 0) → atV ps c t = aView ps c (valuesAt ps c) := fun h => by unfold atV; rw [if_neg h]
  unfold aAt at h2
  generalize atE ps c t w = E at *
  generalize atV ps c t = V at *
  generalize checkF ps t = e at *
  generalize givenF ps [c] [] = gv at *
  generalize formedB t = f at *
  generalize typedB t = y at *
  generalize resF t.kind = r at *
  generalize allB ntmB t = a at *
  have hl := hs.procs
  obtain ⟨k, n, p, q, s, l⟩ := t
  simp only [aPd_mk] at *
  by_cases hc : c.length = ps.length
  · have hci : (c.length : Int) = ps.length := by omega
    by_cases he : e = 0
    · subst he
      rw [if_neg (by simpa using hc), if_neg (by decide)] at hE
      have h3 := h3 (h4' rfl) (h3' rfl)
      rw [h4' rfl, Bool.true_and] at h4
      by_cases hg : gv = 0
      · subst hg
        rw [if_neg (by decide)] at hE
        rw [if_neg (by decide)] at h2
        have hV := hV2 (by rintro (h | h | h); exact h hc; exact h rfl; exact h rfl)
        unfold aView at hV
        by_cases hr : r = w
        · rw [if_neg (by simpa using hr)] at hE
          rw [if_pos hr] at h3
          refine PC.enter 53 [.cell 8 104, .tmp 9] [4, 6] Go.Proofs.Tryz.func59 rfl rfl rfl rfl rfl (by simp) (AWp.of ?_); simp only [go_sem]
          repeat (first | ((with_reducible refine AWp.ofC ?_ ?_); (focus exact rfl); simp only [go_sem]) | ((with_reducible refine an ?_ ?_); focus exact Au))
          intro b8
          repeat (first | ((with_reducible refine AWp.ofC ?_ ?_); (focus exact rfl); simp only [go_sem]) | ((with_reducible refine an ?_ ?_); focus exact Au))
          repeat ((with_reducible refine an ?_ ?_); focus exact As)
          refine (h1).val.use ?_; simp only [go_sem, hci]
          repeat (first | ((with_reducible refine AWp.ofC ?_ ?_); (focus exact rfl); simp only [go_sem, hci]) | ((with_reducible refine an ?_ ?_); focus exact Au))
          repeat ((with_reducible refine an ?_ ?_); focus exact As)
          refine (h2).val.use ?_; simp only [go_sem]
          repeat (first | ((with_reducible refine AWp.ofC ?_ ?_); (focus exact rfl); simp only [go_sem]) | ((with_reducible refine an ?_ ?_); focus exact Au))
          repeat ((with_reducible refine an ?_ ?_); focus exact As)
          refine (h3).val.use ?_; simp only [go_sem]
          repeat (first | ((with_reducible refine AWp.ofC ?_ ?_); (focus exact rfl); simp only [go_sem]) | ((with_reducible refine an ?_ ?_); focus exact Au))
          repeat ((with_reducible refine an ?_ ?_); focus exact As)
          refine GCall.use (ab (!a)) (fun _ => ⟨At, (h4).val.use ⟨rfl, rfl⟩⟩) ?_; simp only [go_sem]
          repeat ((with_reducible refine an ?_ ?_); focus exact As)
          repeat (first | ((with_reducible refine AWp.ofC ?_ ?_); (focus exact rfl); simp only [go_sem]) | ((with_reducible refine an ?_ ?_); focus exact Au))
          refine ⟨fun h5 => ?_, fun h5 => ?_⟩
          · rw [if_pos h5] at hE
            repeat (first | ((with_reducible refine AWp.ofC ?_ ?_); (focus exact rfl); simp only [go_sem]) | ((with_reducible refine an ?_ ?_); focus exact Au))
            refine ret_eq ?_; simp only [go_sem]
            rw [hV, hE]; rfl
          · rw [if_neg (by rw [h5]; decide)] at hE
            repeat (first | ((with_reducible refine AWp.ofC ?_ ?_); (focus exact rfl); simp only [go_sem]) | ((with_reducible refine an ?_ ?_); focus exact Au))
            refine ret_eq ?_; simp only [go_sem]
            rw [hV, hE]; rfl
        · rw [if_pos hr] at hE
          rw [if_neg hr] at h3
          refine PC.enter 53 [.cell 8 104, .tmp 9] [4, 6] Go.Proofs.Tryz.func59 rfl rfl rfl rfl rfl (by simp) (AWp.of ?_); simp only [go_sem]
          repeat (first | ((with_reducible refine AWp.ofC ?_ ?_); (focus exact rfl); simp only [go_sem]) | ((with_reducible refine an ?_ ?_); focus exact Au))
          intro b8
          repeat (first | ((with_reducible refine AWp.ofC ?_ ?_); (focus exact rfl); simp only [go_sem]) | ((with_reducible refine an ?_ ?_); focus exact Au))
          repeat ((with_reducible refine an ?_ ?_); focus exact As)
          refine (h1).val.use ?_; simp only [go_sem, hci]
          repeat (first | ((with_reducible refine AWp.ofC ?_ ?_); (focus exact rfl); simp only [go_sem, hci]) | ((with_reducible refine an ?_ ?_); focus exact Au))
          repeat ((with_reducible refine an ?_ ?_); focus exact As)
          refine (h2).val.use ?_; simp only [go_sem]
          repeat (first | ((with_reducible refine AWp.ofC ?_ ?_); (focus exact rfl); simp only [go_sem]) | ((with_reducible refine an ?_ ?_); focus exact Au))
          repeat ((with_reducible refine an ?_ ?_); focus exact As)
          refine (h3).val.use ?_; simp only [go_sem]
          repeat (first | ((with_reducible refine AWp.ofC ?_ ?_); (focus exact rfl); simp only [go_sem]) | ((with_reducible refine an ?_ ?_); focus exact Au))
          repeat ((with_reducible refine an ?_ ?_); focus exact As)
          refine GCall.use (ab (!a)) (fun _ => ⟨At, (h4).val.use ⟨rfl, rfl⟩⟩) ?_; simp only [go_sem, Int.reduceEq]
          repeat ((with_reducible refine an ?_ ?_); focus exact As)
          repeat (first | ((with_reducible refine AWp.ofC ?_ ?_); (focus exact rfl); simp only [go_sem]) | ((with_reducible refine an ?_ ?_); focus exact Au))
          refine ret_eq ?_; simp only [go_sem]
          rw [hV, hE]; rfl
      · rw [if_pos hg] at hE
        rw [if_pos hg] at h2
        have hV := hV1 (.inr (.inr hg))
        refine PC.enter 53 [.cell 8 104, .tmp 9] [4, 6] Go.Proofs.Tryz.func59 rfl rfl rfl rfl rfl (by simp) (AWp.of ?_); simp only [go_sem]
        repeat (first | ((with_reducible refine AWp.ofC ?_ ?_); (focus exact rfl); simp only [go_sem]) | ((with_reducible refine an ?_ ?_); focus exact Au))
        intro b8
        repeat (first | ((with_reducible refine AWp.ofC ?_ ?_); (focus exact rfl); simp only [go_sem]) | ((with_reducible refine an ?_ ?_); focus exact Au))
        repeat ((with_reducible refine an ?_ ?_); focus exact As)
        refine (h1).val.use ?_; simp only [go_sem, hci]
        repeat (first | ((with_reducible refine AWp.ofC ?_ ?_); (focus exact rfl); simp only [go_sem, hci]) | ((with_reducible refine an ?_ ?_); focus exact Au))
        repeat ((with_reducible refine an ?_ ?_); focus exact As)
        refine (h2).val.use ?_; simp only [go_sem]
        repeat (first | ((with_reducible refine AWp.ofC ?_ ?_); (focus exact rfl); simp only [go_sem, hg]) | ((with_reducible refine an ?_ ?_); focus exact Au))
        refine ret_view [] ?_; simp only [go_sem]
        rw [hV, hE]
        exact .mkTup (Vws.cons (vw_view0 _) (Vws.refl _))
    · rw [if_neg (by simpa using hc), if_pos he] at hE
      have hV := hV1 (.inr (.inl he))
      refine PC.enter 53 [.cell 8 104, .tmp 9] [4, 6] Go.Proofs.Tryz.func59 rfl rfl rfl rfl rfl (by simp) (AWp.of ?_); simp only [go_sem]
      repeat (first | ((with_reducible refine AWp.ofC ?_ ?_); (focus exact rfl); simp only [go_sem]) | ((with_reducible refine an ?_ ?_); focus exact Au))
      intro b8
      repeat (first | ((with_reducible refine AWp.ofC ?_ ?_); (focus exact rfl); simp only [go_sem]) | ((with_reducible refine an ?_ ?_); focus exact Au))
      repeat ((with_reducible refine an ?_ ?_); focus exact As)
      refine (h1).val.use ?_; simp only [go_sem]
      refine AWp.cut [8, 10] (fun vs L => L = [(b8, .row 104 3 [.agg [anil, anil, anil]] 1)] ∧ vs = [.lp b8 3 0 0, ai e]) ?_ ?_
      · repeat (first | ((with_reducible refine AWp.ofC ?_ ?_); (focus exact rfl); simp only [go_sem, hci]) | ((with_reducible refine an ?_ ?_); focus exact Au))
        exact ⟨_, List.Sublist.refl _, rfl⟩
      rintro vs L - ⟨rfl, rfl⟩
      simp only [go_sem]
      repeat (first | ((with_reducible refine AWp.ofC ?_ ?_); (focus exact rfl); simp only [go_sem, he]) | ((with_reducible refine an ?_ ?_); focus exact Au))
      refine ret_view [] ?_; simp only [go_sem]
      rw [hV, hE]
      exact .mkTup (Vws.cons (vw_view0 _) (Vws.refl _))
  · have hci : ¬ (c.length : Int) = ps.length := by omega
    rw [if_pos hc] at hE
    have hV := hV1 (.inl hc)
    refine PC.enter 53 [.cell 8 104, .tmp 9] [4, 6] Go.Proofs.Tryz.func59 rfl rfl rfl rfl rfl (by simp) (AWp.of ?_); simp only [go_sem]
    repeat (first | ((with_reducible refine AWp.ofC ?_ ?_); (focus exact rfl); simp only [go_sem]) | ((with_reducible refine an ?_ ?_); focus exact Au))
    intro b8
    repeat (first | ((with_reducible refine AWp.ofC ?_ ?_); (focus exact rfl); simp only [go_sem]) | ((with_reducible refine an ?_ ?_); focus exact Au))
    repeat ((with_reducible refine an ?_ ?_); focus exact As)
    refine (h1).val.use ?_; simp only [go_sem]
    refine AWp.cut [8, 10] (fun vs L => L = [(b8, .row 104 3 [.agg [anil, anil, anil]] 1)] ∧ vs = [.lp b8 3 0 0, ai 1]) ?_ ?_
    · repeat (first | ((with_reducible refine AWp.ofC ?_ ?_); (focus exact rfl); simp only [go_sem, hci]) | ((with_reducible refine an ?_ ?_); focus exact Au))
      refine ⟨fun h6 => ?_, fun h6 => ?_⟩
      · repeat (first | ((with_reducible refine AWp.ofC ?_ ?_); (focus exact rfl); simp only [go_sem]) | ((with_reducible refine an ?_ ?_); focus exact Au))
        exact ⟨_, List.Sublist.refl _, rfl⟩
      · exact ⟨_, List.Sublist.refl _, by rw [h6]; exact ⟨rfl, rfl⟩⟩
    rintro vs L - ⟨rfl, rfl⟩
    simp only [go_sem]
    repeat (first | ((with_reducible refine AWp.ofC ?_ ?_); (focus exact rfl); simp only [go_sem, Int.reduceEq]) | ((with_reducible refine an ?_ ?_); focus exact Au))
    refine ret_view [] ?_; simp only [go_sem]
    rw [hV, hE]
    exact .mkTup (Vws.cons (vw_view0 _) (Vws.refl _))
/-! ### Trees without channels -/
def nchB : Pd → Bool | .mk k _ _ _ _ _ => decide (k ≠ 4)
def andB (f g : Pd → Bool) (x : Pd) : Bool := f x && g x
theorem allB_and {f g : Pd → Bool} (t : Pd) : allB f t = true → allB g t = true → allB (andB f g) t = true := by
  induction t using Pd.ind with
  | _ k n p q s l ih =>
    intro hf hg
    obtain ⟨f1, f2⟩ := allB_sub hf
    obtain ⟨g1, g2⟩ := allB_sub hg
    rw [allB_mk, Bool.and_eq_true, List.all_eq_true]
    exact ⟨by unfold andB; rw [f1, g1]; rfl, fun x hx => ih x hx (f2 x hx) (g2 x hx)⟩
theorem cut_leaf (ps : List Pr) (hs : Sm ps) (c : List Int) (ch : Int → Int → Int) (hg : givenF ps [c] [] = 0) (t : Pd) (hr : allB (resB ps) t = true) (hn : allB nchB t = true) :
    AllP (leafOk ps c (valuesAt ps c) (cutO ps c ch)) t ∧ AllP (obsB ps (cutO ps c ch)) t := by
  obtain ⟨hv, hc, hir, _⟩ := givenF_zero hg
  have hb := allB_and t hr hn
  have hvl : (valuesAt ps c).length = ps.length := by unfold valuesAt; rw [List.length_map, List.length_zip]; omega
  have hcg : ∀ i (hi : i < ps.length), c.getD i 0 = c[i]'(by omega) := fun i hi => by rw [List.getD_eq_getElem?_getD, List.getElem?_eq_getElem (by omega)]; rfl
  refine ⟨AllP_of_allB (fun x hx => ?_) t hb, AllP_of_allB (fun x hx => ?_) t hb⟩
  · obtain ⟨k, n, p, q, s, l⟩ := x
    unfold andB at hx
    rw [Bool.and_eq_true] at hx
    obtain ⟨r2, r3, r4⟩ := res_leaf hx.1
    refine ⟨fun e => ?_, fun e => ?_, fun e => ?_⟩
    · obtain ⟨i, rfl, hp⟩ := isPB_nat (r2 e).1
      have hvg := valuesAt_get (c := c) hp (by omega)
      have h := view_variable ps hs c (valuesAt ps c) k n i q s l hp (r2 e).2 (by omega) (by rw [hvg, stateAt_length])
      rw [hvg] at h
      have ho : (cutO ps c ch).var i s = (stateAt ps[i] (c[i]'(by omega)).toNat).getD (varIx ps[i].vars s).toNat 0 := by
        unfold cutO; simp only [Int.toNat_natCast, List.getElem?_eq_getElem hp, hcg i hp]
      rw [ho]; exact h
    · obtain ⟨i, rfl, hp⟩ := isPB_nat (r3 e)
      refine ⟨by omega, ?_⟩
      have ho : (cutO ps c ch).cnt i = c[i]'(by omega) := by unfold cutO; simp only [Int.toNat_natCast, hcg i hp]
      rw [ho, Int.toNat_natCast, List.getElem?_eq_getElem (by omega)]
    · have := hx.2
      unfold nchB at this
      simp only [decide_eq_true_eq] at this
      exact absurd e this
  · obtain ⟨k, n, p, q, s, l⟩ := x
    unfold andB at hx
    rw [Bool.and_eq_true] at hx
    obtain ⟨r2, r3, r4⟩ := res_leaf hx.1
    refine ⟨fun e => ?_, fun e => ?_, fun e => ?_⟩
    · obtain ⟨i, rfl, hp⟩ := isPB_nat (r2 e).1
      obtain ⟨b1, b2⟩ := inRangeF_get hir hc hp
      have ho : (cutO ps c ch).var i s = (stateAt ps[i] (c[i]'(by omega)).toNat).getD (varIx ps[i].vars s).toNat 0 := by
        unfold cutO; simp only [Int.toNat_natCast, List.getElem?_eq_getElem hp, hcg i hp]
      have hm := valsF_mem ps[i] (varIx ps[i].vars s).toNat (k := (c[i]'(by omega)).toNat) (by omega)
      rw [ho]
      unfold varLo varHi
      simp only [Int.toNat_natCast, List.getElem?_eq_getElem hp]
      exact ⟨minL_le hm, le_maxL hm⟩
    · obtain ⟨i, rfl, hp⟩ := isPB_nat (r3 e)
      obtain ⟨b1, b2⟩ := inRangeF_get hir hc hp
      have ho : (cutO ps c ch).cnt i = c[i]'(by omega) := by unfold cutO; simp only [Int.toNat_natCast, hcg i hp]
      rw [ho, evN_get hp]
      exact ⟨b1, b2⟩
    · have := hx.2
      unfold nchB at this
      simp only [decide_eq_true_eq] at this
      exact absurd e this
theorem atE_zero {ps : List Pr} {c : List Int} {t : Pd} (h : atE ps c t 2 = 0) : checkF ps t = 0 ∧ givenF ps [c] [] = 0 ∧ 9 ≤ t.kind ∧ allB ntmB t = true ∧ c.length = ps.length := by
  unfold atE at h
  split at h
  · cases h
  · rename_i h1
    split at h
    · rename_i h2; exact absurd h h2
    · rename_i h2
      split at h
      · rename_i h3; exact absurd h h3
      · rename_i h3
        split at h
        · cases h
        · rename_i h4
          split at h
          · cases h
          · rename_i h5
            refine ⟨by simpa using h2, by simpa using h3, ?_, by simpa using h5, by simpa using h1⟩
            have : resF t.kind = 2 := by simpa using h4
            unfold resF at this
            split at this <;> omega
noncomputable def aBool (ps : List Pr) (c : List Int) (t : Pd) : AV := .tup [ab (decide (atE ps c t 2 = 0) && truF (cutO ps c fun _ _ => 0) t), ai (atE ps c t 2)]
theorem evaluate_Bool (ps : List Pr) (hs : Sm ps) (c : List Int) (hcl : c.length ≤ 1000000) (t : Pd) (hz : szF t ≤ 1000000) (hn : allB nchB t = true) : PC Go.Proofs.Tryz.prog 23 [aTr ps, aInts c, aPd t] (aBool ps c t) := by
  have h1 := evaluate_at ps hs c hcl t hz 2
  have h2 : atE ps c t 2 = 0 → atV ps c t = aView ps c (valuesAt ps c) ∧ PC Go.Proofs.Tryz.prog 60 [aView ps c (valuesAt ps c), aPd t] (ab (truF (cutO ps c fun _ _ => 0) t)) := fun h => by
    obtain ⟨g1, g2, g3, g4, g5⟩ := atE_zero h
    obtain ⟨g6, g7, g8, g9⟩ := checkF_zero g1
    refine ⟨by unfold atV; rw [if_neg (by rintro (h | h | h); exact h g5; exact h g1; exact h g2)], ?_⟩
    have g10 := g8
    unfold okT at g10
    simp only [Bool.and_eq_true] at g10
    obtain ⟨l1, l2⟩ := cut_leaf ps hs c (fun _ _ => 0) g2 t g10.1.2 hn
    exact view_truth ps c _ _ hcl t hz g8 g3 g9 g4 l2 l1
  unfold aBool
  generalize atE ps c t 2 = e at *
  generalize truF (cutO ps c fun _ _ => 0) t = b at *
  obtain ⟨k, n, p, q, s, l⟩ := t
  by_cases he : e = 0
  · subst he
    obtain ⟨h3, h2⟩ := h2 rfl
    rw [h3] at h1
    unfold aView at *
    simp only [aPd_mk] at *
    refine PC.enter 23 [.tmp 6, .tmp 7] [3, 5, 8] Go.Proofs.Tryz.func23 rfl rfl rfl rfl rfl (by simp) (AWp.of ?_); simp only [go_sem]
    repeat (first | ((with_reducible refine AWp.ofC ?_ ?_); (focus exact rfl); simp only [go_sem]) | ((with_reducible refine an ?_ ?_); focus exact Au))
    repeat ((with_reducible refine an ?_ ?_); focus exact As)
    refine (h1).val.use ?_; simp only [go_sem]
    repeat (first | ((with_reducible refine AWp.ofC ?_ ?_); (focus exact rfl); simp only [go_sem]) | ((with_reducible refine an ?_ ?_); focus exact Au))
    intro b8
    repeat (first | ((with_reducible refine AWp.ofC ?_ ?_); (focus exact rfl); simp only [go_sem]) | ((with_reducible refine an ?_ ?_); focus exact Au))
    repeat ((with_reducible refine an ?_ ?_); focus exact As)
    refine (h2).val.use ?_; simp only [go_sem]
    repeat (first | ((with_reducible refine AWp.ofC ?_ ?_); (focus exact rfl); simp only [go_sem]) | ((with_reducible refine an ?_ ?_); focus exact Au))
    refine ret_eq ?_; simp only [go_sem]
  · have hV : ∃ A B D, atV ps c (.mk k n p q s l) = aView A B D := by
      unfold atV; split <;> exact ⟨_, _, _, rfl⟩
    obtain ⟨A, B, D, hV⟩ := hV
    rw [hV] at h1
    unfold aView at h1
    simp only [aPd_mk] at *
    refine PC.enter 23 [.tmp 6, .tmp 7] [3, 5, 8] Go.Proofs.Tryz.func23 rfl rfl rfl rfl rfl (by simp) (AWp.of ?_); simp only [go_sem]
    repeat (first | ((with_reducible refine AWp.ofC ?_ ?_); (focus exact rfl); simp only [go_sem]) | ((with_reducible refine an ?_ ?_); focus exact Au))
    repeat ((with_reducible refine an ?_ ?_); focus exact As)
    refine (h1).val.use ?_; simp only [go_sem]
    repeat (first | ((with_reducible refine AWp.ofC ?_ ?_); (focus exact rfl); simp only [go_sem]) | ((with_reducible refine an ?_ ?_); focus exact Au))
    intro b8
    repeat (first | ((with_reducible refine AWp.ofC ?_ ?_); (focus exact rfl); simp only [go_sem, he]) | ((with_reducible refine an ?_ ?_); focus exact Au))
    refine ret_eq ?_; simp only [go_sem]
end Go.AL
end
section
/- The join and the meet of two cuts. No condition. -/
namespace Go.AL
open Go Go.RowKit
set_option maxRecDepth 4000
/-- A row that is filled from the front. -/
def fillZ (l : List Int) (n i : Nat) : List Int := l.take i ++ List.replicate (n - i) 0
theorem fillZ_set {l : List Int} {n i : Nat} (hl : l.length = n) (hi : i < n) : (fillZ l n i).set i (l[i]'(by omega)) = fillZ l n (i + 1) := by
  unfold fillZ
  have e : n - i = (n - (i + 1)) + 1 := by omega
  rw [List.set_append_right _ _ (by rw [List.length_take]; omega), List.length_take, show i - min i l.length = 0 by omega, e, List.replicate_succ, List.set_cons_zero, List.take_succ_eq_append_getElem (by omega), List.append_assoc]
  rfl
theorem fillZ_zero (l : List Int) (n : Nat) : fillZ l n 0 = List.replicate n 0 := by unfold fillZ; simp
theorem fillZ_full {l : List Int} {n : Nat} (h : l.length = n) : fillZ l n n = l := by unfold fillZ; subst h; simp
theorem fillZ_length {l : List Int} {n i : Nat} (hl : l.length = n) (hi : i ≤ n) : (fillZ l n i).length = n := by unfold fillZ; rw [List.length_append, List.length_take, List.length_replicate]; omega
theorem map_set_ai (l : List Int) (i : Nat) (v : Int) : (l.map ai).set i (ai v) = (l.set i v).map ai := by rw [List.map_set]
theorem replicate_ai (n : Nat) : (List.replicate n (0 : Int)).map ai = List.replicate n (ai 0) := by rw [List.map_replicate]
def two (l a b : List Int) (g : Int → Int → Int) : List Int := List.zipWith g a b
noncomputable def aComb (ps : List Pr) (a b : List Int) (g : Int → Int → Int) : AV := if givenF ps [a, b] [] ≠ 0 then .tup [.sl 1 [], ai (givenF ps [a, b] [])] else .tup [aInts (List.zipWith g a b), ai 0]
theorem givenL {ps : List Pr} {l : List (List Int)} : givenF ps l [] = 0 ↔ (validF ps = true ∧ ∀ c ∈ l, c.length = ps.length) ∧ (∀ c ∈ l, inRangeF ps c = true) ∧ ∀ c ∈ l, closedF ps c = true := by
  have h1 : sizedF ps l = true ↔ validF ps = true ∧ ∀ c ∈ l, c.length = ps.length := by
    refine ⟨sizedF_inv, fun h => ?_⟩
    unfold sizedF
    rw [h.1, Bool.true_and, Bool.not_eq_true', List.any_eq_false]
    intro c hc
    rw [decide_eq_true (h.2 c hc)]; decide
  have h2 := List.all_eq_true (l := l) (p := inRangeF ps)
  have h3 := List.all_eq_true (l := l) (p := closedF ps)
  rw [← h1, ← h2, ← h3]
  unfold givenF
  cases sizedF ps l <;> cases l.all (inRangeF ps) <;> cases l.all (closedF ps) <;> simp
theorem given2 {ps : List Pr} {a b : List Int} (h : givenF ps [a, b] [] = 0) : givenF ps [a] [] = 0 ∧ givenF ps [b] [] = 0 := by
  rw [givenL] at h
  refine ⟨givenL.2 ⟨⟨h.1.1, fun c hc => h.1.2 c ?_⟩, fun c hc => h.2.1 c ?_, fun c hc => h.2.2 c ?_⟩, givenL.2 ⟨⟨h.1.1, fun c hc => h.1.2 c ?_⟩, fun c hc => h.2.1 c ?_, fun c hc => h.2.2 c ?_⟩⟩ <;> (simp at hc; simp [hc])
theorem given1 {ps : List Pr} {a b : List Int} (h1 : givenF ps [a] [] = 0) (h2 : givenF ps [b] [] = 0) : givenF ps [a, b] [] = 0 := by
  rw [givenL] at *
  refine ⟨⟨h1.1.1, fun c hc => ?_⟩, fun c hc => ?_, fun c hc => ?_⟩ <;> (rcases List.mem_cons.1 hc with rfl | hc)
  · exact h1.1.2 _ (by simp)
  · exact h2.1.2 c hc
  · exact h1.2.1 _ (by simp)
  · exact h2.2.1 c hc
  · exact h1.2.2 _ (by simp)
  · exact h2.2.2 c hc
theorem cut_combine (ps : List Pr) (hs : Sm ps) (a b : List Int) (f : FuncId) (g : Int → Int → Int) (hf : ∀ x y, PC Go.Proofs.Tryz.prog f [ai x, ai y] (ai (g x y))) : PC Go.Proofs.Tryz.prog 57 [aTr ps, aInts a, aInts b, .v (.func (.func f) #[] #[])] (aComb ps a b g) := by
  have hg := cut_given ps hs [a, b] (by simp) [] (by simp)
  have hsp : aComb ps a b g = if givenF ps [a, b] [] ≠ 0 then .tup [.sl 1 [], ai (givenF ps [a, b] [])] else .tup [aInts (List.zipWith g a b), ai 0] := rfl
  have hgz : givenF ps [a, b] [] = 0 → a.length = ps.length ∧ b.length = ps.length := fun h => ⟨(givenF_zero (given2 h).1).2.1, (givenF_zero (given2 h).2).2.1⟩
  have hpl := hs.procs
  generalize givenF ps [a, b] [] = e at *
  generalize aComb ps a b g = R at *
  refine PC.enter 44 [.tmp 8, .tmp 9] [4, 16] Go.Proofs.Tryz.func57 rfl rfl rfl rfl rfl (by simp) (AWp.of ?_); simp only [go_sem]
  repeat (first | ((with_reducible refine AWp.ofC ?_ ?_); (focus exact rfl); simp only [go_sem]) | ((with_reducible refine an ?_ ?_); focus exact Au))
  refine (PC.view (Vws.cons (.refl _) (Vws.cons (.refl _) (Vws.cons (.nil 1) .nil))) hg (Own.v _) ?_).val
  simp only [go_sem]
  repeat (first | ((with_reducible refine AWp.ofC ?_ ?_); (focus exact rfl); simp only [go_sem]) | ((with_reducible refine an ?_ ?_); focus exact Au))
  refine ⟨fun h1 => ?_, fun h1 => ?_⟩
  · rw [if_pos h1] at hsp
    repeat (first | ((with_reducible refine AWp.ofC ?_ ?_); (focus exact rfl); simp only [go_sem]) | ((with_reducible refine an ?_ ?_); focus exact Au))
    refine ret_view [] ?_; simp only [go_sem]
    rw [hsp]
    exact .mkTup (Vws.cons (.nil 1) (Vws.refl _))
  rw [if_neg (by simpa using h1)] at hsp
  obtain ⟨ha, hb⟩ := hgz h1
  have hab : b.length = a.length := by omega
  have hzl : (List.zipWith g a b).length = a.length := by rw [List.length_zipWith]; omega
  have hzg : ∀ i (hi : i < a.length), (List.zipWith g a b)[i]? = some (g a[i] (b[i]'(by rw [hab]; exact hi))) := fun i hi => by rw [List.getElem?_eq_getElem (by omega), List.getElem_zipWith]
  generalize List.zipWith g a b = z at *
  repeat (first | ((with_reducible refine AWp.ofC ?_ ?_); (focus exact rfl); simp only [go_sem]) | ((with_reducible refine an ?_ ?_); focus exact Au))
  intro b11
  repeat (first | ((with_reducible refine AWp.ofC ?_ ?_); (focus exact rfl); simp only [go_sem]) | ((with_reducible refine an ?_ ?_); focus exact Au))
  refine AWp.range' a.length [] [1, 2, 3, 11, 25] (fun k vs L => L = [(b11, .row 3 1 ((fillZ z a.length k).map ai) a.length)]) (by omega) rfl rfl rfl (by rw [fillZ_zero, replicate_ai]) ?_ ?_
  · rintro k vs L' hk - rfl
    have hga := getD_map (f := ai) hk
    have hgb := getD_map (f := ai) (l := b) (k := k) (by omega)
    have hfl := fillZ_length (i := k) hzl (by omega)
    have hfs := fillZ_set hzl hk
    obtain ⟨hkz, hzk⟩ := List.getElem?_eq_some_iff.1 (hzg k hk)
    rw [hzk] at hfs
    have hfc := hf a[k] (b[k]'(by rw [hab]; exact hk))
    simp only [go_sem]
    repeat ((with_reducible refine an ?_ ?_); focus exact As)
    refine AWp.of ?_; simp only [go_sem]
    refine AWp.mix mixed [0, 1, 2, 3, 4, 5, 6, 7, 8, 9, 10] (.step 11 (.step 12 (.step 13 .done .done) .done) .done) (by kernel_rfl) ?_; simp only [go_sem, hga, hgb]
    repeat ((with_reducible refine an ?_ ?_); focus exact As)
    refine (hfc).val.use ?_; simp only [go_sem, hga, hgb]
    repeat ((with_reducible refine an ?_ ?_); focus exact As)
    have hkf : k < (fillZ z a.length k).length := by omega
    have hgf := getD_map (f := ai) hkf
    refine ⟨_, List.Sublist.refl _, ?_⟩
    rw [← hfs, ← map_set_ai, hgf]
  · rintro vs L' - rfl
    rw [fillZ_full hzl]
    simp only [go_sem]
    repeat (first | ((with_reducible refine AWp.ofC ?_ ?_); (focus exact rfl); simp only [go_sem]) | ((with_reducible refine an ?_ ?_); focus exact Au))
    refine ret_view [true] ?_; simp only [go_sem]
    rw [hsp]
    exact .mkTup (Vws.cons (Vw.ofLs (if_pos rfl) (by simp; omega)) (Vws.refl _))
theorem cut_Join (ps : List Pr) (hs : Sm ps) (a b : List Int) : PC Go.Proofs.Tryz.prog 22 [aTr ps, aInts a, aInts b] (aComb ps a b fun x y => if x < y then y else x) := by
  have hf : ∀ x y, PC Go.Proofs.Tryz.prog 58 [ai x, ai y] (ai (if x < y then y else x)) := fun x y => by
    refine PC.enter 8 [.tmp 4] [] Go.Proofs.Tryz.func58 rfl rfl rfl rfl rfl (by simp) (AWp.of ?_); simp only [go_sem]
    repeat (first | ((with_reducible refine AWp.ofC ?_ ?_); (focus exact rfl); simp only [go_sem]) | ((with_reducible refine an ?_ ?_); focus exact Au))
    refine ret_eq ?_; simp only [go_sem]
  have hc := cut_combine ps hs a b 58 (fun x y => if x < y then y else x) hf
  unfold aComb at *
  generalize givenF ps [a, b] [] = e at *
  generalize (List.zipWith (fun x y => if x < y then y else x) a b) = z at *
  by_cases he : e = 0
  · rw [if_neg (by simpa using he)] at *
    refine PC.enter 14 [.tmp 6, .tmp 7] [3] Go.Proofs.Tryz.func22 rfl rfl rfl rfl rfl (by simp) (AWp.of ?_); simp only [go_sem]
    repeat (first | ((with_reducible refine AWp.ofC ?_ ?_); (focus exact rfl); simp only [go_sem]) | ((with_reducible refine an ?_ ?_); focus exact Au))
    repeat ((with_reducible refine an ?_ ?_); focus exact As)
    refine (hc).val.use ?_; simp only [go_sem]
    repeat (first | ((with_reducible refine AWp.ofC ?_ ?_); (focus exact rfl); simp only [go_sem]) | ((with_reducible refine an ?_ ?_); focus exact Au))
    refine ret_eq ?_; simp only [go_sem]
  · rw [if_pos he] at *
    refine PC.enter 14 [.tmp 6, .tmp 7] [3] Go.Proofs.Tryz.func22 rfl rfl rfl rfl rfl (by simp) (AWp.of ?_); simp only [go_sem]
    repeat (first | ((with_reducible refine AWp.ofC ?_ ?_); (focus exact rfl); simp only [go_sem]) | ((with_reducible refine an ?_ ?_); focus exact Au))
    repeat ((with_reducible refine an ?_ ?_); focus exact As)
    refine (hc).val.use ?_; simp only [go_sem]
    repeat (first | ((with_reducible refine AWp.ofC ?_ ?_); (focus exact rfl); simp only [go_sem]) | ((with_reducible refine an ?_ ?_); focus exact Au))
    refine ret_eq ?_; simp only [go_sem]
end Go.AL
end
section
/- Rewritten trees. No condition. -/
namespace Go.AL
open Go Go.RowKit
set_option maxRecDepth 4000
/-! ### Counts of processes that there are -/
def covB (m : Int) : Pd → Bool
  | .mk k _ p _ _ _ => !(decide (k = 3) && (decide (p < 0) || decide (m ≤ p)))
theorem ref49_counted (m : Int) (t : Pd) : szF t ≤ 1000000 → PC Go.Proofs.Tryz.prog 54 [aPd t, ai m] (ab (allB (covB m) t)) := by
  induction t using Pd.ind with
  | _ k n p q s l ih =>
  intro hz
  have hsz : szF (.mk k n p q s l) = szL l + 1 := by rw [szF]
  have hll := szL_len l
  have hsp : allB (covB m) (.mk k n p q s l) = (covB m (.mk k n p q s l) && l.all (allB (covB m))) := by rw [allB_mk]
  have hc1 : covB m (.mk k n p q s l) = !(decide (k = 3) && (decide (p < 0) || decide (m ≤ p))) := rfl
  generalize allB (covB m) (.mk k n p q s l) = B at *
  generalize covB m (.mk k n p q s l) = b at *
  refine PC.enter 35 [.tmp 4] [2] Go.Proofs.Tryz.func54 rfl rfl rfl rfl rfl (by simp) (AWp.of ?_); simp only [go_sem]
  repeat (first | ((with_reducible refine AWp.ofC ?_ ?_); (focus exact rfl); simp only [go_sem]) | ((with_reducible refine an ?_ ?_); focus exact Au))
  repeat (first | ((with_reducible refine AWp.ofC ?_ ?_); (focus exact rfl); simp only [go_sem]) | ((with_reducible refine an ?_ ?_); focus exact Au))
  refine ⟨fun h1 h2 => ?_, fun h1 => ?_⟩
  · repeat (first | ((with_reducible refine AWp.ofC ?_ ?_); (focus exact rfl); simp only [go_sem]) | ((with_reducible refine an ?_ ?_); focus exact Au))
    refine ret_eq ?_; simp only [go_sem]
    rw [hsp, hc1]; simp [h1]; intro a1 a2; omega
  have hb : b = true := by
    rw [hc1]
    by_cases e : k = 3
    · have := h1 e; simp only [e, decide_true, Bool.true_and]; simp; omega
    · simp [e]
  rw [hb, Bool.true_and] at hsp
  repeat (first | ((with_reducible refine AWp.ofC ?_ ?_); (focus exact rfl); simp only [go_sem]) | ((with_reducible refine an ?_ ?_); focus exact Au))
  refine AWp.block (AWp.count 5 l.length [] [1, 2] (fun i vs L => L = [] ∧ ∀ j (hj : j < l.length), j < i → allB (covB m) l[j] = true) rfl rfl ⟨rfl, by omega⟩ ?_)
  rintro i vs L hi - ⟨rfl, hI⟩
  simp only [go_sem]
  repeat (first | ((with_reducible refine AWp.ofC ?_ ?_); (focus exact rfl); simp only [go_sem]) | ((with_reducible refine an ?_ ?_); focus exact Au))
  refine ⟨fun h4 => ?_, fun h4 => ?_⟩
  · have hil : i < l.length := by omega
    have hgi := getD_map (f := aPd) hil
    have hzi := szL_mem (List.getElem_mem hil)
    have hch := ih l[i] (List.getElem_mem hil) (by omega)
    have hnx := all_next hI hil
    have hno := all_not (f := allB (covB m)) hil
    generalize l[i] = x at *
    obtain ⟨k2, n2, p2, q2, s2, l2⟩ := x
    simp only [aPd_mk] at hgi hch
    repeat (first | ((with_reducible refine AWp.ofC ?_ ?_); (focus exact rfl); simp only [go_sem, hgi]) | ((with_reducible refine an ?_ ?_); focus exact Au))
    repeat ((with_reducible refine an ?_ ?_); focus exact As)
    refine (hch).val.use ?_; simp only [go_sem]
    repeat (first | ((with_reducible refine AWp.ofC ?_ ?_); (focus exact rfl); simp only [go_sem]) | ((with_reducible refine an ?_ ?_); focus exact Au))
    refine ⟨fun h5 => ?_, fun h5 => ?_⟩
    · repeat (first | ((with_reducible refine AWp.ofC ?_ ?_); (focus exact rfl); simp only [go_sem]) | ((with_reducible refine an ?_ ?_); focus exact Au))
      refine ret_eq ?_; simp only [go_sem]
      rw [hsp, hno h5]
    · repeat (first | ((with_reducible refine AWp.ofC ?_ ?_); (focus exact rfl); simp only [go_sem]) | ((with_reducible refine an ?_ ?_); focus exact Au))
      exact ⟨_, List.Sublist.refl _, rfl, hnx h5⟩
  · repeat (first | ((with_reducible refine AWp.ofC ?_ ?_); (focus exact rfl); simp only [go_sem]) | ((with_reducible refine an ?_ ?_); focus exact Au))
    refine ret_eq ?_; simp only [go_sem]
    rw [hsp, all_of hI (by omega)]
theorem prune_covered (m : Int) (t : Pd) : szF t ≤ 1000000 → PC Go.Proofs.Tryz.prog 51 [aPd t, ai m] (ab (allB (covB m) t)) := by
  induction t using Pd.ind with
  | _ k n p q s l ih =>
  intro hz
  have hsz : szF (.mk k n p q s l) = szL l + 1 := by rw [szF]
  have hll := szL_len l
  have h1 : ∀ x ∈ l, PV Go.Proofs.Tryz.prog (.clo 85 [.rp 1 [ai m] 0 0]) [aPd x] (ab (!allB (covB m) x)) := by
    intro x hx
    have hxi := szL_mem hx
    have hch := ih x hx (by omega)
    generalize allB (covB m) x = b at *
    obtain ⟨k2, n2, p2, q2, s2, l2⟩ := x
    refine PC.clo ?_
    simp only [aPd_mk] at *
    refine PC.enter 8 [.tmp 3] [2] Go.Proofs.Tryz.func85 rfl rfl rfl rfl rfl (by simp) (AWp.of ?_); simp only [go_sem]
    repeat (first | ((with_reducible refine AWp.ofC ?_ ?_); (focus exact rfl); simp only [go_sem]) | ((with_reducible refine an ?_ ?_); focus exact Au))
    repeat ((with_reducible refine an ?_ ?_); focus exact As)
    refine (hch).val.use ?_; simp only [go_sem]
    repeat (first | ((with_reducible refine AWp.ofC ?_ ?_); (focus exact rfl); simp only [go_sem]) | ((with_reducible refine an ?_ ?_); focus exact Au))
    refine ret_eq ?_; simp only [go_sem]
  have hc := preds_containsFunc l (by omega) _ rfl (fun x => !allB (covB m) x) h1
  have hsp : allB (covB m) (.mk k n p q s l) = (covB m (.mk k n p q s l) && !l.any fun x => !allB (covB m) x) := by
    rw [allB_mk]; congr 1
    rw [List.all_eq_not_any_not]
  have hc1 : covB m (.mk k n p q s l) = !(decide (k = 3) && (decide (p < 0) || decide (m ≤ p))) := rfl
  generalize allB (covB m) (.mk k n p q s l) = B at *
  generalize covB m (.mk k n p q s l) = b at *
  generalize (l.any fun x => !allB (covB m) x) = c at *
  refine PC.enter 24 [.tmp 4] [2, 3] Go.Proofs.Tryz.func51 rfl rfl rfl rfl rfl (by simp) (AWp.of ?_); simp only [go_sem]
  repeat (first | ((with_reducible refine AWp.ofC ?_ ?_); (focus exact rfl); simp only [go_sem]) | ((with_reducible refine an ?_ ?_); focus exact Au))
  repeat (first | ((with_reducible refine AWp.ofC ?_ ?_); (focus exact rfl); simp only [go_sem]) | ((with_reducible refine an ?_ ?_); focus exact Au))
  refine ⟨fun h1 h2 => ?_, fun h1 => ?_⟩
  · repeat (first | ((with_reducible refine AWp.ofC ?_ ?_); (focus exact rfl); simp only [go_sem]) | ((with_reducible refine an ?_ ?_); focus exact Au))
    refine ret_eq ?_; simp only [go_sem]
    rw [hsp, hc1]; simp [h1]; intro a1 a2; omega
  have hb : b = true := by
    rw [hc1]
    by_cases e : k = 3
    · have := h1 e; simp only [e, decide_true, Bool.true_and]; simp; omega
    · simp [e]
  rw [hb, Bool.true_and] at hsp
  repeat (first | ((with_reducible refine AWp.ofC ?_ ?_); (focus exact rfl); simp only [go_sem]) | ((with_reducible refine an ?_ ?_); focus exact Au))
  repeat ((with_reducible refine an ?_ ?_); focus exact As)
  refine (hc).val.use ?_; simp only [go_sem]
  repeat (first | ((with_reducible refine AWp.ofC ?_ ?_); (focus exact rfl); simp only [go_sem]) | ((with_reducible refine an ?_ ?_); focus exact Au))
  refine ret_eq ?_; simp only [go_sem]
  rw [hsp]
/-! ### Rewritten trees -/
mutual
def rwF (c : List Int) : Pd → Pd
  | .mk k n p q s l => if k = 3 then .mk 6 0 0 0 ByteArray.empty [.mk k n p q s l, .mk 1 (c.getD p.toNat 0) 0 0 ByteArray.empty []] else .mk k n p q s (rwL c l)
def rwL (c : List Int) : List Pd → List Pd
  | [] => []
  | x :: r => rwF c x :: rwL c r
end
theorem rwL_map (c : List Int) : ∀ l, rwL c l = l.map (rwF c)
  | [] => by rw [rwL]; rfl
  | x :: r => by rw [rwL, rwL_map c r]; rfl
def aPd0 : AV := .agg [ai 0, ai 0, ai 0, ai 0, astr ByteArray.empty, anil]
theorem ref49_rewritten (c : List Int) (hc : c.length ≤ 1000000) (t : Pd) : szF t ≤ 1000000 → allB (covB c.length) t = true → PC Go.Proofs.Tryz.prog 55 [aPd t, aInts c] (aPd (rwF c t)) := by
  induction t using Pd.ind with
  | _ k n p q s l ih =>
  intro hz hcv
  have hsz : szF (.mk k n p q s l) = szL l + 1 := by rw [szF]
  have hll := szL_len l
  rw [allB_mk, Bool.and_eq_true] at hcv
  obtain ⟨hcv, hcl⟩ := hcv
  have hsp : rwF c (.mk k n p q s l) = if k = 3 then .mk 6 0 0 0 ByteArray.empty [.mk k n p q s l, .mk 1 (c.getD p.toNat 0) 0 0 ByteArray.empty []] else .mk k n p q s (l.map (rwF c)) := by rw [rwF, rwL_map]
  generalize rwF c (.mk k n p q s l) = T at *
  refine PC.enter 41 [.cell 4 28] [2, 37] Go.Proofs.Tryz.func55 rfl rfl rfl rfl rfl (by simp) (AWp.of ?_); simp only [go_sem]
  intro b4
  repeat (first | ((with_reducible refine AWp.ofC ?_ ?_); (focus exact rfl); simp only [go_sem]) | ((with_reducible refine an ?_ ?_); focus exact Au))
  refine ⟨fun h1 => ?_, fun h1 => ?_⟩
  · rw [if_pos h1] at hsp
    have hp : 0 ≤ p ∧ p < c.length := by
      simp only [covB, h1, decide_true, Bool.true_and, Bool.not_eq_true', Bool.or_eq_false_iff, decide_eq_false_iff_not] at hcv
      omega
    have hpn : p.toNat < c.length := by omega
    have hgp : (c.map ai).getD p.toNat .any = ai c[p.toNat] := getD_map hpn
    have hcd : c.getD p.toNat 0 = c[p.toNat] := by rw [List.getD_eq_getElem?_getD, List.getElem?_eq_getElem hpn]; rfl
    rw [hcd] at hsp
    refine AWp.mix mixed [0, 1, 2, 3, 4, 5, 6] (.step 7 (.step 8 (.step 9 .done .done) .done) .done) (by kernel_rfl) ?_; simp only [go_sem, hgp]
    repeat ((with_reducible refine an ?_ ?_); focus exact As)
    intro b hlt
    have nb : ¬ b4 = b := by omega
    simp only [go_sem, nb]
    repeat ((with_reducible refine an ?_ ?_); focus exact As)
    repeat (first | ((with_reducible refine AWp.ofC ?_ ?_); (focus exact rfl); simp only [go_sem, nb]) | ((with_reducible refine an ?_ ?_); focus exact Au))
    refine ret_view [true] ?_; simp only [go_sem, nb]
    rw [hsp]
    simp only [aPd_mk, List.map_cons, List.map_nil]
    refine .mkAgg (Vws.cons (.refl _) (Vws.cons (.refl _) (Vws.cons (.refl _) (Vws.cons (.refl _) (Vws.cons (.refl _) (Vws.cons (.ls (if_pos rfl) (by simp) (by simp) ?_) .nil))))))
    exact (Vws.cons (.refl _) (Vws.cons (.mkAgg (Vws.cons (.refl _) (Vws.cons (.refl _) (Vws.cons (.refl _) (Vws.cons (.refl _) (Vws.cons (.refl _) (Vws.cons (.nil 6) .nil))))))) .nil)).2
  · rw [if_neg h1] at hsp
    repeat (first | ((with_reducible refine AWp.ofC ?_ ?_); (focus exact rfl); simp only [go_sem]) | ((with_reducible refine an ?_ ?_); focus exact Au))
    intro b5 hlt
    have n1 : ¬ b4 = b5 := by omega
    have n2 : ¬ b5 = b4 := by omega
    repeat (first | ((with_reducible refine AWp.ofC ?_ ?_); (focus exact rfl); simp only [go_sem, n2]) | ((with_reducible refine an ?_ ?_); focus exact Au))
    refine AWp.block (AWp.count 6 l.length [] [1, 2, 4, 5] (fun i vs L => ∃ v Ln, L = Ln ++ [(b5, ABlk.row 28 6 [.agg [ai k, ai n, ai p, ai q, astr s, v]] 1), (b4, ABlk.row 28 6 [aPd0] 1)] ∧ AppSt 28 6 (((l.take i).map (rwF c)).map aPd) v Ln ∧ ∀ x ∈ Ln, x.1 ≠ b5 ∧ x.1 ≠ b4) rfl rfl ⟨anil, [], rfl, .nil, by simp⟩ ?_)
    rintro i vs L hi - ⟨v, Ln, rfl, hA, hne⟩
    simp only [go_sem]
    repeat (first | ((with_reducible refine AWp.ofC ?_ ?_); (focus exact rfl); simp only [go_sem]) | ((with_reducible refine an ?_ ?_); focus exact Au))
    refine ⟨fun h4 => ?_, fun h4 => ?_⟩
    · have hil : i < l.length := by omega
      have hgi := getD_map (f := aPd) hil
      have hzi := szL_mem (List.getElem_mem hil)
      have hch := ih l[i] (List.getElem_mem hil) (by omega) (List.all_eq_true.1 hcl _ (List.getElem_mem hil))
      have hsu : ((l.take (i + 1)).map (rwF c)).map aPd = ((l.take i).map (rwF c)).map aPd ++ [aPd (rwF c l[i])] := by
        rw [List.take_succ_eq_append_getElem hil, List.map_append, List.map_append]; rfl
      have hyl : (((l.take i).map (rwF c)).map aPd).length ≤ 1000000 := by simp; omega
      generalize ((l.take i).map (rwF c)).map aPd = ys at *
      generalize rwF c l[i] = z at *
      generalize l[i] = x at *
      obtain ⟨k2, m2, p2, q2, s2, l2⟩ := x
      obtain ⟨k3, o3, p3, q3, s3, l3⟩ := z
      simp only [aPd_mk] at hgi hch hsu
      rcases hA.inv with ⟨e1, rfl, rfl⟩ | ⟨b, cap, rfl, rfl⟩
      · repeat (first | ((with_reducible refine AWp.ofC ?_ ?_); (focus exact rfl); simp only [go_sem]) | ((with_reducible refine an ?_ ?_); focus exact Au))
        refine AWp.seq (AWp.block ?_)
        refine AWp.mix mixed [0, 2, 3, 4, 5, 6, 7, 8] (.step 1 (.step 9 (.step 10 (.step 11 (.step 12 .done .done) .done) .done) .done) (.step 9 (.step 1 (.step 10 (.step 11 (.step 12 .done .done) .done) .done) .done) .done)) (by kernel_rfl) ?_; simp only [go_sem, hgi, n2]
        repeat ((with_reducible refine an ?_ ?_); focus exact As)
        refine GCall.use (.agg [ai k3, ai o3, ai p3, ai q3, astr s3, .sl 6 (l3.map aPd)]) (fun _ => ⟨At, (hch).val.use ⟨rfl, rfl⟩⟩) ?_; simp only [go_sem, n2]
        repeat' (first | (with_reducible refine And.intro ?_ ?_) | intro _)
        all_goals first | omega | skip
        all_goals
          rename_i b' cap' f1 f2 f3
          have n5 : ¬ b5 = b' := by omega
          have n6 : ¬ b4 = b' := by omega
          simp only [go_sem, n5, n6]
          repeat ((with_reducible refine an ?_ ?_); focus exact As)
          repeat (first | ((with_reducible refine AWp.ofC ?_ ?_); (focus exact rfl); simp only [go_sem, n5, n6]) | ((with_reducible refine an ?_ ?_); focus exact Au))
          refine ⟨_, List.Sublist.refl _, _, [(b', .row 28 6 [_] cap')], rfl, ?_, ?_⟩
          · rw [hsu, e1]; exact .row _ [_] _
          · intro p hp; simp at hp; subst hp; exact ⟨fun e => n5 e.symm, fun e => n6 e.symm⟩
      · have m1 : ¬ b = b5 := (hne (b, _) List.mem_cons_self).1
        have m2 : ¬ b = b4 := (hne (b, _) List.mem_cons_self).2
        have m3 : ¬ b5 = b := fun e => m1 e.symm
        have m4 : ¬ b4 = b := fun e => m2 e.symm
        repeat (first | ((with_reducible refine AWp.ofC ?_ ?_); (focus exact rfl); simp only [go_sem]) | ((with_reducible refine an ?_ ?_); focus exact Au))
        refine AWp.seq (AWp.block ?_)
        refine AWp.mix mixed [0, 2, 3, 4, 5, 6, 7, 8] (.step 1 (.step 9 (.step 10 (.step 11 (.step 12 .done .done) .done) .done) .done) (.step 9 (.step 1 (.step 10 (.step 11 (.step 12 .done .done) .done) .done) .done) .done)) (by kernel_rfl) ?_; simp only [go_sem, hgi, n2, m1, m3]
        repeat ((with_reducible refine an ?_ ?_); focus exact As)
        refine GCall.use (.agg [ai k3, ai o3, ai p3, ai q3, astr s3, .sl 6 (l3.map aPd)]) (fun _ => ⟨At, (hch).val.use ⟨rfl, rfl⟩⟩) ?_; simp only [go_sem, n2, m1, m3]
        repeat' (first | (with_reducible refine And.intro ?_ ?_) | intro _)
        all_goals first | omega | skip
        all_goals
          rename_i b' cap' n5 n6 f3
          simp only [go_sem, n5, n6]
          repeat ((with_reducible refine an ?_ ?_); focus exact As)
          repeat (first | ((with_reducible refine AWp.ofC ?_ ?_); (focus exact rfl); simp only [go_sem, n5, n6]) | ((with_reducible refine an ?_ ?_); focus exact Au))
          refine ⟨_, List.Sublist.refl _, _, [(b', .row 28 6 (ys ++ [_]) cap')], rfl, ?_, ?_⟩
          · rw [hsu]
            have := AppSt.row (t := 28) (k := 6) b' (ys ++ [.agg [ai k3, ai o3, ai p3, ai q3, astr s3, .sl 6 (l3.map aPd)]]) cap'
            simpa using this
          · intro p hp; simp at hp; subst hp; exact ⟨fun e => n5 e.symm, fun e => n6 e.symm⟩
    · have hil : i = l.length := by omega
      rw [hil, List.take_length] at hA
      have hee : aPd T = .agg [ai k, ai n, ai p, ai q, astr s, .sl 6 ((l.map (rwF c)).map aPd)] := by rw [hsp, aPd_mk]
      generalize (l.map (rwF c)).map aPd = ys at *
      rw [hee]
      rcases hA.inv with ⟨e1, rfl, rfl⟩ | ⟨b, cap, rfl, rfl⟩
      · repeat (first | ((with_reducible refine AWp.ofC ?_ ?_); (focus exact rfl); simp only [go_sem, n1, n2, aPd0]) | ((with_reducible refine an ?_ ?_); focus exact Au))
        refine ret_view [] ?_; simp only [go_sem, n1, n2]
        rw [e1]
        exact .mkAgg (Vws.cons (.refl _) (Vws.cons (.refl _) (Vws.cons (.refl _) (Vws.cons (.refl _) (Vws.cons (.refl _) (Vws.cons (.nil 6) .nil))))))
      · have m1 : ¬ b5 = b := fun e => (hne (b, _) List.mem_cons_self).1 e.symm
        have m2 : ¬ b4 = b := fun e => (hne (b, _) List.mem_cons_self).2 e.symm
        repeat (first | ((with_reducible refine AWp.ofC ?_ ?_); (focus exact rfl); simp only [go_sem, n1, n2, m1, m2, aPd0]) | ((with_reducible refine an ?_ ?_); focus exact Au))
        refine ret_view [true] ?_; simp only [go_sem, n1, n2, m1, m2]
        exact .mkAgg (Vws.cons (.refl _) (Vws.cons (.refl _) (Vws.cons (.refl _) (Vws.cons (.refl _) (Vws.cons (.refl _) (Vws.cons (Vw.ofLs (if_pos rfl) rfl) .nil))))))
theorem prune_rewrite (c : List Int) (hc : c.length ≤ 1000000) (t : Pd) : szF t ≤ 1000000 → allB (covB c.length) t = true → PC Go.Proofs.Tryz.prog 52 [aPd t, aInts c] (aPd (rwF c t)) := by
  induction t using Pd.ind with
  | _ k n p q s l ih =>
  intro hz hcv
  have hsz : szF (.mk k n p q s l) = szL l + 1 := by rw [szF]
  have hll := szL_len l
  rw [allB_mk, Bool.and_eq_true] at hcv
  obtain ⟨hcv, hcl⟩ := hcv
  have hsp : rwF c (.mk k n p q s l) = if k = 3 then .mk 6 0 0 0 ByteArray.empty [.mk k n p q s l, .mk 1 (c.getD p.toNat 0) 0 0 ByteArray.empty []] else .mk k n p q s (l.map (rwF c)) := by rw [rwF, rwL_map]
  generalize rwF c (.mk k n p q s l) = T at *
  refine PC.enter 39 [.cell 4 28] [2, 7, 34] Go.Proofs.Tryz.func52 rfl rfl rfl rfl rfl (by simp) (AWp.of ?_); simp only [go_sem]
  intro b4
  repeat (first | ((with_reducible refine AWp.ofC ?_ ?_); (focus exact rfl); simp only [go_sem]) | ((with_reducible refine an ?_ ?_); focus exact Au))
  refine ⟨fun h1 => ?_, fun h1 => ?_⟩
  · rw [if_pos h1] at hsp
    have hp : 0 ≤ p ∧ p < c.length := by
      simp only [covB, h1, decide_true, Bool.true_and, Bool.not_eq_true', Bool.or_eq_false_iff, decide_eq_false_iff_not] at hcv
      omega
    have hpn : p.toNat < c.length := by omega
    have hgp : (c.map ai).getD p.toNat .any = ai c[p.toNat] := getD_map hpn
    have hcd : c.getD p.toNat 0 = c[p.toNat] := by rw [List.getD_eq_getElem?_getD, List.getElem?_eq_getElem hpn]; rfl
    rw [hcd] at hsp
    refine AWp.mix mixed [0, 1, 2, 3, 4, 5, 6] (.step 7 (.step 8 (.step 9 .done .done) .done) .done) (by kernel_rfl) ?_; simp only [go_sem, hgp]
    repeat ((with_reducible refine an ?_ ?_); focus exact As)
    intro b hlt
    have nb : ¬ b4 = b := by omega
    simp only [go_sem, nb]
    repeat ((with_reducible refine an ?_ ?_); focus exact As)
    repeat (first | ((with_reducible refine AWp.ofC ?_ ?_); (focus exact rfl); simp only [go_sem, nb]) | ((with_reducible refine an ?_ ?_); focus exact Au))
    refine ret_view [true] ?_; simp only [go_sem, nb]
    rw [hsp]
    simp only [aPd_mk, List.map_cons, List.map_nil]
    refine .mkAgg (Vws.cons (.refl _) (Vws.cons (.refl _) (Vws.cons (.refl _) (Vws.cons (.refl _) (Vws.cons (.refl _) (Vws.cons (.ls (if_pos rfl) (by simp) (by simp) ?_) .nil))))))
    exact (Vws.cons (.refl _) (Vws.cons (.mkAgg (Vws.cons (.refl _) (Vws.cons (.refl _) (Vws.cons (.refl _) (Vws.cons (.refl _) (Vws.cons (.refl _) (Vws.cons (.nil 6) .nil))))))) .nil)).2
  · rw [if_neg h1] at hsp
    repeat (first | ((with_reducible refine AWp.ofC ?_ ?_); (focus exact rfl); simp only [go_sem]) | ((with_reducible refine an ?_ ?_); focus exact Au))
    intro b5 hlt
    have n1 : ¬ b4 = b5 := by omega
    have n2 : ¬ b5 = b4 := by omega
    repeat (first | ((with_reducible refine AWp.ofC ?_ ?_); (focus exact rfl); simp only [go_sem, n2]) | ((with_reducible refine an ?_ ?_); focus exact Au))
    refine AWp.range' l.length [] [1, 4, 5, 23, 24] (fun i vs L => ∃ v Ln, L = Ln ++ [(b5, ABlk.row 28 6 [.agg [ai k, ai n, ai p, ai q, astr s, v]] 1), (b4, ABlk.row 28 6 [aPd0] 1)] ∧ AppSt 28 6 (((l.take i).map (rwF c)).map aPd) v Ln ∧ ∀ x ∈ Ln, x.1 ≠ b5 ∧ x.1 ≠ b4) (by omega) rfl rfl rfl ⟨anil, [], rfl, .nil, by simp⟩ ?_ ?_
    · rintro i vs L hil - ⟨v, Ln, rfl, hA, hne⟩
      simp only [go_sem]
      have hgi := getD_map (f := aPd) hil
      have hzi := szL_mem (List.getElem_mem hil)
      have hch := ih l[i] (List.getElem_mem hil) (by omega) (List.all_eq_true.1 hcl _ (List.getElem_mem hil))
      have hsu : ((l.take (i + 1)).map (rwF c)).map aPd = ((l.take i).map (rwF c)).map aPd ++ [aPd (rwF c l[i])] := by
        rw [List.take_succ_eq_append_getElem hil, List.map_append, List.map_append]; rfl
      have hyl : (((l.take i).map (rwF c)).map aPd).length ≤ 1000000 := by simp; omega
      generalize ((l.take i).map (rwF c)).map aPd = ys at *
      generalize rwF c l[i] = z at *
      generalize l[i] = x at *
      obtain ⟨k2, m2, p2, q2, s2, l2⟩ := x
      obtain ⟨k3, o3, p3, q3, s3, l3⟩ := z
      simp only [aPd_mk] at hgi hch hsu
      rcases hA.inv with ⟨e1, rfl, rfl⟩ | ⟨b, cap, rfl, rfl⟩
      · repeat (first | ((with_reducible refine AWp.ofC ?_ ?_); (focus exact rfl); simp only [go_sem, hgi]) | ((with_reducible refine an ?_ ?_); focus exact Au))
        intro b7 g1 g2
        have n7 : ¬ b5 = b7 := by omega
        have n8 : ¬ b7 = b5 := by omega
        repeat ((with_reducible refine an ?_ ?_); focus exact As)
        refine AWp.mix mixed [0, 2, 3, 4] (.step 1 (.step 5 (.step 6 (.step 7 (.step 8 .done .done) .done) .done) .done) (.step 5 (.step 1 (.step 6 (.step 7 (.step 8 .done .done) .done) .done) .done) .done)) (by kernel_rfl) ?_; simp only [go_sem, hgi, n2, n7, n8]
        repeat ((with_reducible refine an ?_ ?_); focus exact As)
        refine GCall.use (.agg [ai k3, ai o3, ai p3, ai q3, astr s3, .sl 6 (l3.map aPd)]) (fun _ => ⟨At, (hch).val.use ⟨rfl, rfl⟩⟩) ?_; simp only [go_sem, n2]
        repeat' (first | (with_reducible refine And.intro ?_ ?_) | intro _)
        all_goals first | omega | skip
        all_goals
          rename_i b' cap' f1 f2 f3
          have n5 : ¬ b5 = b' := by omega
          have n6 : ¬ b4 = b' := by omega
          simp only [go_sem, n5, n6]
          repeat ((with_reducible refine an ?_ ?_); focus exact As)
          repeat (first | ((with_reducible refine AWp.ofC ?_ ?_); (focus exact rfl); simp only [go_sem, n5, n6]) | ((with_reducible refine an ?_ ?_); focus exact Au))
          refine ⟨_, List.Sublist.refl _, _, [(b', .row 28 6 [_] cap')], rfl, ?_, ?_⟩
          · rw [hsu, e1]; exact .row _ [_] _
          · intro p hp; simp at hp; subst hp; exact ⟨fun e => n5 e.symm, fun e => n6 e.symm⟩
      · have m1 : ¬ b = b5 := (hne (b, _) List.mem_cons_self).1
        have m2 : ¬ b = b4 := (hne (b, _) List.mem_cons_self).2
        have m3 : ¬ b5 = b := fun e => m1 e.symm
        have m4 : ¬ b4 = b := fun e => m2 e.symm
        repeat (first | ((with_reducible refine AWp.ofC ?_ ?_); (focus exact rfl); simp only [go_sem, hgi]) | ((with_reducible refine an ?_ ?_); focus exact Au))
        intro b7 g0 g1 g2
        have n7 : ¬ b5 = b7 := by omega
        have n8 : ¬ b7 = b5 := by omega
        have n9 : ¬ b = b7 := by omega
        have n10 : ¬ b7 = b := by omega
        repeat ((with_reducible refine an ?_ ?_); focus exact As)
        refine AWp.mix mixed [0, 2, 3, 4] (.step 1 (.step 5 (.step 6 (.step 7 (.step 8 .done .done) .done) .done) .done) (.step 5 (.step 1 (.step 6 (.step 7 (.step 8 .done .done) .done) .done) .done) .done)) (by kernel_rfl) ?_; simp only [go_sem, hgi, n2, m1, m3, n7, n8, n9, n10]
        repeat ((with_reducible refine an ?_ ?_); focus exact As)
        refine GCall.use (.agg [ai k3, ai o3, ai p3, ai q3, astr s3, .sl 6 (l3.map aPd)]) (fun _ => ⟨At, (hch).val.use ⟨rfl, rfl⟩⟩) ?_; simp only [go_sem, n2, m1, m3]
        repeat' (first | (with_reducible refine And.intro ?_ ?_) | intro _)
        all_goals first | omega | skip
        all_goals
          rename_i b' cap' n5 n6 f3
          simp only [go_sem, n5, n6]
          repeat ((with_reducible refine an ?_ ?_); focus exact As)
          repeat (first | ((with_reducible refine AWp.ofC ?_ ?_); (focus exact rfl); simp only [go_sem, n5, n6]) | ((with_reducible refine an ?_ ?_); focus exact Au))
          refine ⟨_, List.Sublist.refl _, _, [(b', .row 28 6 (ys ++ [_]) cap')], rfl, ?_, ?_⟩
          · rw [hsu]
            have := AppSt.row (t := 28) (k := 6) b' (ys ++ [.agg [ai k3, ai o3, ai p3, ai q3, astr s3, .sl 6 (l3.map aPd)]]) cap'
            simpa using this
          · intro p hp; simp at hp; subst hp; exact ⟨fun e => n5 e.symm, fun e => n6 e.symm⟩
    · rintro vs L - ⟨v, Ln, rfl, hA, hne⟩
      simp only [go_sem]
      rw [List.take_length] at hA
      have hee : aPd T = .agg [ai k, ai n, ai p, ai q, astr s, .sl 6 ((l.map (rwF c)).map aPd)] := by rw [hsp, aPd_mk]
      generalize (l.map (rwF c)).map aPd = ys at *
      rw [hee]
      rcases hA.inv with ⟨e1, rfl, rfl⟩ | ⟨b, cap, rfl, rfl⟩
      · repeat (first | ((with_reducible refine AWp.ofC ?_ ?_); (focus exact rfl); simp only [go_sem, n1, n2, aPd0]) | ((with_reducible refine an ?_ ?_); focus exact Au))
        refine ret_view [] ?_; simp only [go_sem, n1, n2]
        rw [e1]
        exact .mkAgg (Vws.cons (.refl _) (Vws.cons (.refl _) (Vws.cons (.refl _) (Vws.cons (.refl _) (Vws.cons (.refl _) (Vws.cons (.nil 6) .nil))))))
      · have m1 : ¬ b5 = b := fun e => (hne (b, _) List.mem_cons_self).1 e.symm
        have m2 : ¬ b4 = b := fun e => (hne (b, _) List.mem_cons_self).2 e.symm
        repeat (first | ((with_reducible refine AWp.ofC ?_ ?_); (focus exact rfl); simp only [go_sem, n1, n2, m1, m2, aPd0]) | ((with_reducible refine an ?_ ?_); focus exact Au))
        refine ret_view [true] ?_; simp only [go_sem, n1, n2, m1, m2]
        exact .mkAgg (Vws.cons (.refl _) (Vws.cons (.refl _) (Vws.cons (.refl _) (Vws.cons (.refl _) (Vws.cons (.refl _) (Vws.cons (Vw.ofLs (if_pos rfl) rfl) .nil))))))
end Go.AL
end
section
/- Trees rewritten and counts shifted: what is returned. No condition. -/
namespace Go.AL
open Go Go.RowKit
set_option maxRecDepth 4000
theorem rwF_size (c : List Int) (t : Pd) : szF (rwF c t) ≤ 3 * szF t := by
  induction t using Pd.ind with
  | _ k n p q s l ih =>
  have hl : ∀ l' : List Pd, (∀ x ∈ l', x ∈ l) → szL (l'.map (rwF c)) ≤ 3 * szL l' := by
    intro l'
    induction l' with
    | nil => intro _; simp [szL]
    | cons x r ihr =>
      intro h
      rw [List.map_cons, szL, szL]
      have := ih x (h x List.mem_cons_self)
      have := ihr fun y hy => h y (List.mem_cons_of_mem _ hy)
      omega
  rw [rwF, rwL_map]
  split
  · simp only [szF, szL]; omega
  · have := hl l fun _ h => h
    simp only [szF]; omega
def pd0 : Pd := .mk 0 0 0 0 ByteArray.empty []
def rwRes (t : Pd) (c : List Int) : Pd × Int :=
  if (!formedB t || !c.all inB) = true then (pd0, 1) else if allB (covB c.length) t = false then (pd0, 2) else if formedB (rwF c t) = false then (pd0, 5) else (rwF c t, 0)
theorem vw_pd0 (L : AHeap) : Vw L aPd0 (aPd pd0) := by
  unfold aPd0 pd0
  rw [aPd_mk]
  exact .mkAgg (Vws.cons (.refl _) (Vws.cons (.refl _) (Vws.cons (.refl _) (Vws.cons (.refl _) (Vws.cons (.refl _) (Vws.cons (.nil 6) .nil))))))
theorem prune_Rewrite (t : Pd) (hz : szF t ≤ 300000) (c : List Int) (hc : c.length ≤ 1000000) : PC Go.Proofs.Tryz.prog 16 [aPd t, aInts c] (.tup [aPd (rwRes t c).1, ai (rwRes t c).2]) := by
  have hf := prune_formed t (by omega)
  have hcn := prune_counts c hc
  have hcv := prune_covered c.length t (by omega)
  have hsz := rwF_size c t
  have hrw := prune_rewrite c hc t (by omega)
  have hf2 := prune_formed (rwF c t) (by omega)
  have hsp : rwRes t c = if (!formedB t || !c.all inB) = true then (pd0, 1) else if allB (covB c.length) t = false then (pd0, 2) else if formedB (rwF c t) = false then (pd0, 5) else (rwF c t, 0) := rfl
  generalize rwRes t c = R at *
  generalize rwF c t = u at *
  generalize allB (covB c.length) t = b2 at *
  generalize formedB t = b1 at *
  generalize c.all inB = b3 at *
  generalize formedB u = b4 at *
  obtain ⟨k, n, p, q, s, l⟩ := t
  obtain ⟨k2, n2, p2, q2, s2, l2⟩ := u
  simp only [aPd_mk] at *
  refine PC.enter 32 [.cell 4 28, .tmp 5] [2, 6] Go.Proofs.Tryz.func16 rfl rfl rfl rfl rfl (by simp) (AWp.of ?_); simp only [go_sem]
  intro d4
  repeat (first | ((with_reducible refine AWp.ofC ?_ ?_); (focus exact rfl); simp only [go_sem]) | ((with_reducible refine an ?_ ?_); focus exact Au))
  repeat ((with_reducible refine an ?_ ?_); focus exact As)
  refine (hf).val.use ?_; simp only [go_sem]
  repeat ((with_reducible refine an ?_ ?_); focus exact As)
  refine GCall.use (ab b3) (fun _ => ⟨At, (hcn).val.use ⟨rfl, rfl⟩⟩) ?_; simp only [go_sem]
  repeat (first | ((with_reducible refine AWp.ofC ?_ ?_); (focus exact rfl); simp only [go_sem]) | ((with_reducible refine an ?_ ?_); focus exact Au))
  refine ⟨fun h1 => ?_, fun h1 => ?_⟩
  · have hR : R = (pd0, 1) := by rw [hsp, if_pos]; rcases h1 with h1 | h1 <;> simp [h1]
    rw [hR]
    repeat (first | ((with_reducible refine AWp.ofC ?_ ?_); (focus exact rfl); simp only [go_sem]) | ((with_reducible refine an ?_ ?_); focus exact Au))
    refine ret_view [] ?_; simp only [go_sem]
    exact .mkTup (Vws.cons (vw_pd0 _) (Vws.refl _))
  intro h2
  rw [h1, h2, if_neg (by decide)] at hsp
  repeat ((with_reducible refine an ?_ ?_); focus exact As)
  refine (hcv).val.use ?_; simp only [go_sem]
  repeat (first | ((with_reducible refine AWp.ofC ?_ ?_); (focus exact rfl); simp only [go_sem]) | ((with_reducible refine an ?_ ?_); focus exact Au))
  refine ⟨fun h3 => ?_, fun h3 => ?_⟩
  · have hR : R = (pd0, 2) := by rw [hsp, if_pos h3]
    rw [hR]
    repeat (first | ((with_reducible refine AWp.ofC ?_ ?_); (focus exact rfl); simp only [go_sem]) | ((with_reducible refine an ?_ ?_); focus exact Au))
    refine ret_view [] ?_; simp only [go_sem]
    exact .mkTup (Vws.cons (vw_pd0 _) (Vws.refl _))
  rw [if_neg (by rw [h3]; decide)] at hsp
  have hrw := hrw h3
  repeat (first | ((with_reducible refine AWp.ofC ?_ ?_); (focus exact rfl); simp only [go_sem]) | ((with_reducible refine an ?_ ?_); focus exact Au))
  repeat ((with_reducible refine an ?_ ?_); focus exact As)
  refine (hrw).val.use ?_; simp only [go_sem]
  repeat ((with_reducible refine an ?_ ?_); focus exact As)
  intro d6
  try intro _
  repeat (first | ((with_reducible refine AWp.ofC ?_ ?_); (focus exact rfl); simp only [go_sem]) | ((with_reducible refine an ?_ ?_); focus exact Au))
  repeat ((with_reducible refine an ?_ ?_); focus exact As)
  refine (hf2).val.use ?_; simp only [go_sem]
  repeat (first | ((with_reducible refine AWp.ofC ?_ ?_); (focus exact rfl); simp only [go_sem]) | ((with_reducible refine an ?_ ?_); focus exact Au))
  refine ⟨fun h4 => ?_, fun h4 => ?_⟩
  · have hR : R = (pd0, 5) := by rw [hsp, if_pos h4]
    rw [hR]
    repeat (first | ((with_reducible refine AWp.ofC ?_ ?_); (focus exact rfl); simp only [go_sem]) | ((with_reducible refine an ?_ ?_); focus exact Au))
    refine ret_view [] ?_; simp only [go_sem]
    exact .mkTup (Vws.cons (vw_pd0 _) (Vws.refl _))
  · have hR : R = (.mk k2 n2 p2 q2 s2 l2, 0) := by rw [hsp, if_neg (by rw [h4]; decide)]
    rw [hR]
    repeat (first | ((with_reducible refine AWp.ofC ?_ ?_); (focus exact rfl); simp only [go_sem]) | ((with_reducible refine an ?_ ?_); focus exact Au))
    refine ret_eq ?_; simp only [go_sem]
theorem ref49_Rewrite (t : Pd) (hz : szF t ≤ 300000) (c : List Int) (hc : c.length ≤ 1000000) : PC Go.Proofs.Tryz.prog 17 [aPd t, aInts c] (.tup [aPd (rwRes t c).1, ai (rwRes t c).2]) := by
  have hf := ref28_Formed t (by omega)
  have hcv := ref49_counted c.length t (by omega)
  have hsz := rwF_size c t
  have hrw := ref49_rewritten c hc t (by omega)
  have hf2 := ref28_Formed (rwF c t) (by omega)
  have hsp : rwRes t c = if (!formedB t || !c.all inB) = true then (pd0, 1) else if allB (covB c.length) t = false then (pd0, 2) else if formedB (rwF c t) = false then (pd0, 5) else (rwF c t, 0) := rfl
  generalize rwRes t c = R at *
  generalize rwF c t = u at *
  generalize allB (covB c.length) t = b2 at *
  generalize formedB t = b1 at *
  generalize formedB u = b4 at *
  obtain ⟨k, n, p, q, s, l⟩ := t
  obtain ⟨k2, n2, p2, q2, s2, l2⟩ := u
  simp only [aPd_mk] at *
  refine PC.enter 39 [.cell 4 28, .tmp 5] [2, 7] Go.Proofs.Tryz.func17 rfl rfl rfl rfl rfl (by simp) (AWp.of ?_); simp only [go_sem]
  intro d4
  repeat (first | ((with_reducible refine AWp.ofC ?_ ?_); (focus exact rfl); simp only [go_sem]) | ((with_reducible refine an ?_ ?_); focus exact Au))
  repeat ((with_reducible refine an ?_ ?_); focus exact As)
  refine (hf).val.use ?_; simp only [go_sem]
  repeat (first | ((with_reducible refine AWp.ofC ?_ ?_); (focus exact rfl); simp only [go_sem]) | ((with_reducible refine an ?_ ?_); focus exact Au))
  refine ⟨fun h1 => ?_, fun h1 => ?_⟩
  · have hR : R = (pd0, 1) := by rw [hsp, if_pos]; simp [h1]
    rw [hR]
    repeat (first | ((with_reducible refine AWp.ofC ?_ ?_); (focus exact rfl); simp only [go_sem]) | ((with_reducible refine an ?_ ?_); focus exact Au))
    refine ret_view [] ?_; simp only [go_sem]
    exact .mkTup (Vws.cons (vw_pd0 _) (Vws.refl _))
  rw [h1] at hsp
  repeat (first | ((with_reducible refine AWp.ofC ?_ ?_); (focus exact rfl); simp only [go_sem]) | ((with_reducible refine an ?_ ?_); focus exact Au))
  refine AWp.block (AWp.count 6 c.length [] [1, 2, 4] (fun i vs L => L = [(d4, ABlk.row 28 6 [aPd0] 1)] ∧ ∀ j (hj : j < c.length), j < i → inB c[j] = true) rfl rfl ⟨rfl, by omega⟩ ?_)
  rintro i vs L hi - ⟨rfl, hI⟩
  simp only [go_sem]
  repeat (first | ((with_reducible refine AWp.ofC ?_ ?_); (focus exact rfl); simp only [go_sem]) | ((with_reducible refine an ?_ ?_); focus exact Au))
  refine ⟨fun h4 => ?_, fun h4 => ?_⟩
  · have hil : i < c.length := by omega
    have hgi := getD_map (f := ai) hil
    have hin := ref49_in c[i]
    repeat (first | ((with_reducible refine AWp.ofC ?_ ?_); (focus exact rfl); simp only [go_sem, hgi]) | ((with_reducible refine an ?_ ?_); focus exact Au))
    repeat ((with_reducible refine an ?_ ?_); focus exact As)
    refine (hin).val.use ?_; simp only [go_sem]
    repeat (first | ((with_reducible refine AWp.ofC ?_ ?_); (focus exact rfl); simp only [go_sem]) | ((with_reducible refine an ?_ ?_); focus exact Au))
    refine ⟨fun h5 => ?_, fun h5 => ?_⟩
    · have hR : R = (pd0, 1) := by
        rw [hsp, if_pos]
        simp only [Bool.not_true, Bool.false_or, Bool.not_eq_true', List.all_eq_false]
        exact ⟨_, List.getElem_mem hil, by rw [h5]; decide⟩
      rw [hR]
      repeat (first | ((with_reducible refine AWp.ofC ?_ ?_); (focus exact rfl); simp only [go_sem]) | ((with_reducible refine an ?_ ?_); focus exact Au))
      refine ret_view [] ?_; simp only [go_sem]
      exact .mkTup (Vws.cons (vw_pd0 _) (Vws.refl _))
    · repeat (first | ((with_reducible refine AWp.ofC ?_ ?_); (focus exact rfl); simp only [go_sem]) | ((with_reducible refine an ?_ ?_); focus exact Au))
      refine ⟨_, List.Sublist.refl _, rfl, fun j hj hji => ?_⟩
      by_cases e : j = i
      · subst e; exact h5
      · exact hI j hj (by omega)
  have h2 : c.all inB = true := by rw [List.all_eq_true]; intro x hx; obtain ⟨j, hj, rfl⟩ := List.getElem_of_mem hx; exact hI j hj (by omega)
  rw [h2, if_neg (by decide)] at hsp
  repeat (first | ((with_reducible refine AWp.ofC ?_ ?_); (focus exact rfl); simp only [go_sem]) | ((with_reducible refine an ?_ ?_); focus exact Au))
  repeat ((with_reducible refine an ?_ ?_); focus exact As)
  refine (hcv).val.use ?_; simp only [go_sem]
  repeat (first | ((with_reducible refine AWp.ofC ?_ ?_); (focus exact rfl); simp only [go_sem]) | ((with_reducible refine an ?_ ?_); focus exact Au))
  refine ⟨fun h3 => ?_, fun h3 => ?_⟩
  · have hR : R = (pd0, 2) := by rw [hsp, if_pos h3]
    rw [hR]
    repeat (first | ((with_reducible refine AWp.ofC ?_ ?_); (focus exact rfl); simp only [go_sem]) | ((with_reducible refine an ?_ ?_); focus exact Au))
    refine ret_view [] ?_; simp only [go_sem]
    exact .mkTup (Vws.cons (vw_pd0 _) (Vws.refl _))
  rw [if_neg (by rw [h3]; decide)] at hsp
  have hrw := hrw h3
  repeat (first | ((with_reducible refine AWp.ofC ?_ ?_); (focus exact rfl); simp only [go_sem]) | ((with_reducible refine an ?_ ?_); focus exact Au))
  repeat ((with_reducible refine an ?_ ?_); focus exact As)
  refine (hrw).val.use ?_; simp only [go_sem]
  repeat ((with_reducible refine an ?_ ?_); focus exact As)
  intro d6
  try intro _
  repeat (first | ((with_reducible refine AWp.ofC ?_ ?_); (focus exact rfl); simp only [go_sem]) | ((with_reducible refine an ?_ ?_); focus exact Au))
  repeat ((with_reducible refine an ?_ ?_); focus exact As)
  refine (hf2).val.use ?_; simp only [go_sem]
  repeat (first | ((with_reducible refine AWp.ofC ?_ ?_); (focus exact rfl); simp only [go_sem]) | ((with_reducible refine an ?_ ?_); focus exact Au))
  refine ⟨fun h4 => ?_, fun h4 => ?_⟩
  · have hR : R = (pd0, 5) := by rw [hsp, if_pos h4]
    rw [hR]
    repeat (first | ((with_reducible refine AWp.ofC ?_ ?_); (focus exact rfl); simp only [go_sem]) | ((with_reducible refine an ?_ ?_); focus exact Au))
    refine ret_view [] ?_; simp only [go_sem]
    exact .mkTup (Vws.cons (vw_pd0 _) (Vws.refl _))
  · have hR : R = (.mk k2 n2 p2 q2 s2 l2, 0) := by rw [hsp, if_neg (by rw [h4]; decide)]
    rw [hR]
    repeat (first | ((with_reducible refine AWp.ofC ?_ ?_); (focus exact rfl); simp only [go_sem]) | ((with_reducible refine an ?_ ?_); focus exact Au))
    refine ret_eq ?_; simp only [go_sem]
    rfl
/-! ### Shifted counts -/
def shS (c d : List Int) : List Int := List.zipWith (· + ·) c d
def shiftR (c d : List Int) : List Int × Int :=
  if (!decide (c.length = d.length) || decide (8 < c.length)) = true then ([], 1) else if (!c.all inB || !d.all inB) = true then ([], 2) else if (shS c d).all inB = false then ([], 9) else (shS c d, 0)
theorem shS_take {c d : List Int} {i : Nat} (hc : i < c.length) (hd : i < d.length) : (shS c d).take (i + 1) = (shS c d).take i ++ [c[i] + d[i]] := by
  have : i < (shS c d).length := by unfold shS; rw [List.length_zipWith]; omega
  rw [List.take_succ_eq_append_getElem this]
  congr 2
  simp [shS]
theorem shS_length (c d : List Int) (h : c.length = d.length) : (shS c d).length = c.length := by unfold shS; rw [List.length_zipWith]; omega
theorem inB_get {c : List Int} (h : c.all inB = true) {i : Nat} (hi : i < c.length) : 0 ≤ c[i] ∧ c[i] ≤ 64 := by
  have := List.all_eq_true.1 h _ (List.getElem_mem hi)
  simp only [inB, Bool.and_eq_true, decide_eq_true_iff] at this; exact this
theorem prune_Shift (c d : List Int) (hc : c.length ≤ 1000000) (hd : d.length ≤ 1000000) : PC Go.Proofs.Tryz.prog 14 [aInts c, aInts d] (.tup [aInts (shiftR c d).1, ai (shiftR c d).2]) := by
  have h1 := prune_counts c hc
  have h2 := prune_counts d hd
  have hlen := shS_length c d
  have h3 := prune_counts (shS c d)
  have hsp : shiftR c d = if (!decide (c.length = d.length) || decide (8 < c.length)) = true then ([], 1) else if (!c.all inB || !d.all inB) = true then ([], 2) else if (shS c d).all inB = false then ([], 9) else (shS c d, 0) := rfl
  have hbc : c.all inB = true → ∀ {i : Nat} (hi : i < c.length), 0 ≤ c[i] ∧ c[i] ≤ 64 := fun h _ hi => inB_get h hi
  have hbd : d.all inB = true → ∀ {i : Nat} (hi : i < d.length), 0 ≤ d[i] ∧ d[i] ≤ 64 := fun h _ hi => inB_get h hi
  generalize shiftR c d = R at *
  generalize c.all inB = b1 at *
  generalize d.all inB = b2 at *
  refine PC.enter 50 [.tmp 4, .tmp 5] [43] Go.Proofs.Tryz.func14 rfl rfl rfl rfl rfl (by simp) (AWp.of ?_); simp only [go_sem]
  repeat (first | ((with_reducible refine AWp.ofC ?_ ?_); (focus exact rfl); simp only [go_sem]) | ((with_reducible refine an ?_ ?_); focus exact Au))
  repeat (first | ((with_reducible refine AWp.ofC ?_ ?_); (focus exact rfl); simp only [go_sem]) | ((with_reducible refine an ?_ ?_); focus exact Au))
  refine ⟨fun k1 => ?_, fun k1 => ?_⟩
  · have hR : R = ([], 1) := by rw [hsp, if_pos]; rcases k1 with k1 | k1 <;> simp; exact .inl (by omega); exact .inr (by omega)
    rw [hR]
    repeat (first | ((with_reducible refine AWp.ofC ?_ ?_); (focus exact rfl); simp only [go_sem]) | ((with_reducible refine an ?_ ?_); focus exact Au))
    refine ret_view [] ?_; simp only [go_sem]
    exact .mkTup (Vws.cons (.nil 1) (Vws.refl _))
  intro k2
  have hl : c.length = d.length := by omega
  have hlen := hlen hl
  have h3 := h3 (by omega)
  rw [if_neg (by simp; omega)] at hsp
  repeat ((with_reducible refine an ?_ ?_); focus exact As)
  refine (h1).val.use ?_; simp only [go_sem]
  repeat ((with_reducible refine an ?_ ?_); focus exact As)
  refine GCall.use (ab b2) (fun _ => ⟨At, (h2).val.use ⟨rfl, rfl⟩⟩) ?_; simp only [go_sem]
  repeat (first | ((with_reducible refine AWp.ofC ?_ ?_); (focus exact rfl); simp only [go_sem]) | ((with_reducible refine an ?_ ?_); focus exact Au))
  refine ⟨fun k3 => ?_, fun k3 => ?_⟩
  · have hR : R = ([], 2) := by rw [hsp, if_pos]; rcases k3 with k3 | k3 <;> simp [k3]
    rw [hR]
    repeat (first | ((with_reducible refine AWp.ofC ?_ ?_); (focus exact rfl); simp only [go_sem]) | ((with_reducible refine an ?_ ?_); focus exact Au))
    refine ret_view [] ?_; simp only [go_sem]
    exact .mkTup (Vws.cons (.nil 1) (Vws.refl _))
  intro k4
  rw [k3, k4, if_neg (by decide)] at hsp
  have hbc := @hbc k3
  have hbd := @hbd k4
  repeat (first | ((with_reducible refine AWp.ofC ?_ ?_); (focus exact rfl); simp only [go_sem]) | ((with_reducible refine an ?_ ?_); focus exact Au))
  refine AWp.range' c.length [6] [0, 1, 29] (fun i vs L => ∃ v Ln, vs = [v] ∧ L = Ln ∧ AppSt 3 1 (((shS c d).take i).map ai) v Ln) (by omega) rfl rfl rfl ⟨anil, [], rfl, rfl, .nil⟩ ?_ ?_
  · rintro i vs L' hi - ⟨v, Ln, rfl, rfl, hA⟩
    have hid : i < d.length := by omega
    have hb1 := hbc hi
    have hb2 := hbd hid
    have hgc := getD_map (f := ai) hi
    have hgd := getD_map (f := ai) hid
    rw [shS_take hi hid, List.map_append]
    have hyl : (((shS c d).take i).map ai).length ≤ 1000000 := by simp; omega
    generalize ((shS c d).take i).map ai = ys at *
    rcases hA.inv with ⟨e1, rfl, rfl⟩ | ⟨b, cap, rfl, rfl⟩
    · simp only [go_sem]
      repeat ((with_reducible refine an ?_ ?_); focus exact As)
      refine AWp.of ?_; simp only [go_sem]
      refine AWp.mix mixed [0, 1, 2, 3, 4, 5, 6, 7, 8, 9] (.step 10 (.step 11 (.step 12 .done .done) .done) .done) (by kernel_rfl) ?_; simp only [go_sem, hgc, hgd]
      repeat ((with_reducible refine an ?_ ?_); focus exact As)
      intro b' cap' _ 
      repeat ((with_reducible refine an ?_ ?_); focus exact As)
      refine ⟨_, List.Sublist.refl _, _, [(b', .row 3 1 [ai (c[i] + d[i])] cap')], rfl, rfl, ?_⟩
      rw [e1]
      exact .row _ _ _
    · simp only [go_sem]
      repeat ((with_reducible refine an ?_ ?_); focus exact As)
      refine AWp.of ?_; simp only [go_sem]
      refine AWp.mix mixed [0, 1, 2, 3, 4, 5, 6, 7, 8, 9] (.step 10 (.step 11 (.step 12 .done .done) .done) .done) (by kernel_rfl) ?_; simp only [go_sem, hgc, hgd]
      repeat ((with_reducible refine an ?_ ?_); focus exact As)
      intro b' cap' _
      repeat ((with_reducible refine an ?_ ?_); focus exact As)
      refine ⟨_, List.Sublist.refl _, _, [(b', .row 3 1 (ys ++ [ai (c[i] + d[i])]) cap')], rfl, rfl, ?_⟩
      have := AppSt.row (t := 3) (k := 1) b' (ys ++ [ai (c[i] + d[i])]) cap'
      simpa using this
  · rintro vs LL - ⟨v, Ln, rfl, rfl, hA⟩
    rw [List.take_of_length_le (by omega)] at hA
    simp only [go_sem]
    have hvw := hA.vw []
    rw [List.append_nil] at hvw
    have hfo := hA.fo
    refine AWp.viewP (Lf := LL) (Lk := []) (L' := []) (by simp) (LVw.refl _) [(6, .sl 1 ((shS c d).map ai))] (by intro p hp; simp at hp; subst hp; exact hvw) ?_
    generalize (shS c d).all inB = b3 at *
    generalize shS c d = S at *
    simp only [go_sem]
    repeat (first | ((with_reducible refine AWp.ofC ?_ ?_); (focus exact rfl); simp only [go_sem]) | ((with_reducible refine an ?_ ?_); focus exact Au))
    repeat ((with_reducible refine an ?_ ?_); focus exact As)
    refine (h3).val.use ?_; simp only [go_sem]
    repeat (first | ((with_reducible refine AWp.ofC ?_ ?_); (focus exact rfl); simp only [go_sem]) | ((with_reducible refine an ?_ ?_); focus exact Au))
    refine ⟨fun k5 => ?_, fun k5 => ?_⟩
    · have hR : R = ([], 9) := by rw [hsp, if_pos k5]
      rw [hR]
      repeat (first | ((with_reducible refine AWp.ofC ?_ ?_); (focus exact rfl); simp only [go_sem]) | ((with_reducible refine an ?_ ?_); focus exact Au))
      refine ret_view [] ?_; simp only [go_sem]
      exact .mkTup (Vws.cons (.nil 1) (Vws.refl _))
    · have hR : R = (S, 0) := by rw [hsp, if_neg (by rw [k5]; decide)]
      rw [hR]
      repeat (first | ((with_reducible refine AWp.ofC ?_ ?_); (focus exact rfl); simp only [go_sem]) | ((with_reducible refine an ?_ ?_); focus exact Au))
      refine ret_eq ?_; simp only [go_sem]
def bigB (c d : List Int) (i : Nat) : Bool := ((shS c d).take i).any fun x => decide (64 < x)
theorem bigB_step {c d : List Int} {i : Nat} (hc : i < c.length) (hd : i < d.length) : bigB c d (i + 1) = (bigB c d i || decide (64 < c[i] + d[i])) := by
  unfold bigB; rw [shS_take hc hd, List.any_append]; simp
theorem bigB_all {c d : List Int} (hl : c.length = d.length) (hc : c.all inB = true) (hd : d.all inB = true) : (shS c d).all inB = !bigB c d c.length := by
  unfold bigB
  rw [List.take_of_length_le (by rw [shS_length c d hl]; omega)]
  rw [Bool.eq_iff_iff, Bool.not_eq_true', List.all_eq_true, List.any_eq_false]
  have hx : ∀ x ∈ shS c d, 0 ≤ x := by
    intro x hx
    obtain ⟨i, hi, rfl⟩ := List.getElem_of_mem hx
    rw [shS_length c d hl] at hi
    have h1 := inB_get hc hi
    have h2 := inB_get hd (show i < d.length by omega)
    simp only [shS, List.getElem_zipWith]
    omega
  refine ⟨fun h x hm => ?_, fun h x hm => ?_⟩
  · have := h x hm; simp only [inB, Bool.and_eq_true, decide_eq_true_iff] at this; simp; omega
  · have := h x hm; have := hx x hm; simp only [inB, Bool.and_eq_true, decide_eq_true_iff]; simp at *; omega
theorem ref49_Shift (c d : List Int) (hc : c.length ≤ 1000000) (hd : d.length ≤ 1000000) : PC Go.Proofs.Tryz.prog 15 [aInts c, aInts d] (.tup [aInts (shiftR c d).1, ai (shiftR c d).2]) := by
  have hsp : shiftR c d = if (!decide (c.length = d.length) || decide (8 < c.length)) = true then ([], 1) else if (!c.all inB || !d.all inB) = true then ([], 2) else if (shS c d).all inB = false then ([], 9) else (shS c d, 0) := rfl
  generalize shiftR c d = R at *
  refine PC.enter 66 [.tmp 4, .tmp 5] [62] Go.Proofs.Tryz.func15 rfl rfl rfl rfl rfl (by simp) (AWp.of ?_); simp only [go_sem]
  repeat (first | ((with_reducible refine AWp.ofC ?_ ?_); (focus exact rfl); simp only [go_sem]) | ((with_reducible refine an ?_ ?_); focus exact Au))
  repeat (first | ((with_reducible refine AWp.ofC ?_ ?_); (focus exact rfl); simp only [go_sem]) | ((with_reducible refine an ?_ ?_); focus exact Au))
  refine ⟨fun k1 => ?_, fun k1 => ?_⟩
  · have hR : R = ([], 1) := by rw [hsp, if_pos]; rcases k1 with k1 | k1 <;> simp; exact .inl (by omega); exact .inr (by omega)
    rw [hR]
    repeat (first | ((with_reducible refine AWp.ofC ?_ ?_); (focus exact rfl); simp only [go_sem]) | ((with_reducible refine an ?_ ?_); focus exact Au))
    refine ret_view [] ?_; simp only [go_sem]
    exact .mkTup (Vws.cons (.nil 1) (Vws.refl _))
  intro k2
  have hl : c.length = d.length := by omega
  rw [if_neg (by simp; omega)] at hsp
  repeat (first | ((with_reducible refine AWp.ofC ?_ ?_); (focus exact rfl); simp only [go_sem]) | ((with_reducible refine an ?_ ?_); focus exact Au))
  refine AWp.block (AWp.count 8 c.length [6, 7] [0, 1] (fun i vs L => ∃ v, vs = [v, ab (bigB c d i)] ∧ AppSt 3 1 (((shS c d).take i).map ai) v L ∧ ∀ j (hj : j < c.length) (hd : j < d.length), j < i → inB c[j] = true ∧ inB d[j] = true) rfl rfl ⟨anil, rfl, .nil, by omega⟩ ?_)
  rintro i vs L hi - ⟨v, rfl, hA, hI⟩
  simp only [go_sem]
  repeat (first | ((with_reducible refine AWp.ofC ?_ ?_); (focus exact rfl); simp only [go_sem]) | ((with_reducible refine an ?_ ?_); focus exact Au))
  refine ⟨fun h4 => ?_, fun h4 => ?_⟩
  · have hil : i < c.length := by omega
    have hid : i < d.length := by omega
    have hgc := getD_map (f := ai) hil
    have hgd := getD_map (f := ai) hid
    have hic := ref49_in c[i]
    have hidd := ref49_in d[i]
    repeat (first | ((with_reducible refine AWp.ofC ?_ ?_); (focus exact rfl); simp only [go_sem, hgc]) | ((with_reducible refine an ?_ ?_); focus exact Au))
    repeat ((with_reducible refine an ?_ ?_); focus exact As)
    refine (hic).val.use ?_; simp only [go_sem, hgd]
    repeat ((with_reducible refine an ?_ ?_); focus exact As)
    refine GCall.use (ab (inB d[i])) (fun _ => ⟨At, (hidd).val.use ⟨rfl, rfl⟩⟩) ?_; simp only [go_sem]
    repeat (first | ((with_reducible refine AWp.ofC ?_ ?_); (focus exact rfl); simp only [go_sem]) | ((with_reducible refine an ?_ ?_); focus exact Au))
    refine ⟨fun k3 => ?_, fun k3 => ?_⟩
    · have hR : R = ([], 2) := by
        rw [hsp, if_pos]
        simp only [Bool.or_eq_true, Bool.not_eq_true', List.all_eq_false]
        rcases k3 with k3 | k3
        · exact .inl ⟨_, List.getElem_mem hil, by rw [k3]; decide⟩
        · exact .inr ⟨_, List.getElem_mem hid, by rw [k3]; decide⟩
      rw [hR]
      repeat (first | ((with_reducible refine AWp.ofC ?_ ?_); (focus exact rfl); simp only [go_sem]) | ((with_reducible refine an ?_ ?_); focus exact Au))
      refine ret_view [] ?_; simp only [go_sem]
      exact .mkTup (Vws.cons (.nil 1) (Vws.refl _))
    intro k4
    have hb1 : 0 ≤ c[i] ∧ c[i] ≤ 64 := by simpa only [inB, Bool.and_eq_true, decide_eq_true_iff] using k3
    have hb2 : 0 ≤ d[i] ∧ d[i] ≤ 64 := by simpa only [inB, Bool.and_eq_true, decide_eq_true_iff] using k4
    have hst := bigB_step hil hid
    have htk := shS_take hil hid
    have hyl : (((shS c d).take i).map ai).length ≤ 1000000 := by simp; omega
    have hma : ((shS c d).take (i + 1)).map ai = ((shS c d).take i).map ai ++ [ai (c[i] + d[i])] := by rw [htk, List.map_append]; rfl
    have hI' : ∀ j (hj : j < c.length) (hd : j < d.length), j < i + 1 → inB c[j] = true ∧ inB d[j] = true := by
      intro j hj hd hji
      by_cases e : j = i
      · subst e; exact ⟨k3, k4⟩
      · exact hI j hj hd (by omega)
    generalize ((shS c d).take i).map ai = ys at *
    generalize bigB c d i = g at *
    have hfo := hA.fo
    repeat (first | ((with_reducible refine AWp.ofC ?_ ?_); (focus exact rfl); simp only [go_sem]) | ((with_reducible refine an ?_ ?_); focus exact Au))
    refine AWp.seq ?_
    refine AWp.mix mixed [0, 1, 2, 3, 4, 5, 6, 7, 8, 9, 10, 11] (.step 12 (.step 13 .done .done) .done) (by kernel_rfl) ?_; simp only [go_sem, hgc, hgd]
    repeat ((with_reducible refine an ?_ ?_); focus exact As)
    rcases hA.inv with ⟨e1, rfl, rfl⟩ | ⟨b, cap, rfl, rfl⟩
    · refine AWp.mix mixed [0, 1, 2, 3, 4, 5, 6, 7, 8, 9] (.step 10 (.step 11 (.step 12 .done .done) .done) .done) (by kernel_rfl) ?_; simp only [go_sem, hgc, hgd]
      repeat ((with_reducible refine an ?_ ?_); focus exact As)
      intro b' cap' _
      repeat (first | ((with_reducible refine AWp.ofC ?_ ?_); (focus exact rfl); simp only [go_sem]) | ((with_reducible refine an ?_ ?_); focus exact Au))
      refine ⟨_, List.Sublist.refl _, .ls b' 1 0 1 cap', ?_, ?_, hI'⟩
      · rw [hst]
      · rw [hma, e1]; exact .row _ [_] _
    · refine AWp.mix mixed [0, 1, 2, 3, 4, 5, 6, 7, 8, 9] (.step 10 (.step 11 (.step 12 .done .done) .done) .done) (by kernel_rfl) ?_; simp only [go_sem, hgc, hgd]
      repeat ((with_reducible refine an ?_ ?_); focus exact As)
      intro b' cap' _
      repeat (first | ((with_reducible refine AWp.ofC ?_ ?_); (focus exact rfl); simp only [go_sem]) | ((with_reducible refine an ?_ ?_); focus exact Au))
      refine ⟨_, List.Sublist.refl _, .ls b' 1 0 (ys.length + 1) cap', ?_, ?_, hI'⟩
      · rw [hst]
      · rw [hma]
        have := AppSt.row (t := 3) (k := 1) b' (ys ++ [ai (c[i] + d[i])]) cap'
        simpa using this
  · have hil : i = c.length := by omega
    have h1 : c.all inB = true := by rw [List.all_eq_true]; intro x hx; obtain ⟨j, hj, rfl⟩ := List.getElem_of_mem hx; exact (hI j hj (by omega) (by omega)).1
    have h2 : d.all inB = true := by rw [List.all_eq_true]; intro x hx; obtain ⟨j, hj, rfl⟩ := List.getElem_of_mem hx; exact (hI j (by omega) hj (by omega)).2
    have hbg := bigB_all hl h1 h2
    rw [h1, h2, if_neg (by decide), hbg] at hsp
    rw [hil, List.take_of_length_le (by rw [shS_length c d hl]; omega)] at hA
    rw [hil]
    generalize bigB c d c.length = g at *
    generalize shS c d = S at *
    have hfo := hA.fo
    have hvw := hA.vw []
    rw [List.append_nil] at hvw
    refine AWp.viewP (Lf := L) (Lk := []) (L' := []) (by simp) (LVw.refl _) [(6, .sl 1 (S.map ai))] (by intro p hp; simp at hp; subst hp; exact hvw) ?_
    simp only [go_sem]
    repeat (first | ((with_reducible refine AWp.ofC ?_ ?_); (focus exact rfl); simp only [go_sem]) | ((with_reducible refine an ?_ ?_); focus exact Au))
    refine ⟨fun k5 => ?_, fun k5 => ?_⟩
    · have hR : R = ([], 9) := by rw [hsp, if_pos]; rw [k5]; rfl
      rw [hR]
      repeat (first | ((with_reducible refine AWp.ofC ?_ ?_); (focus exact rfl); simp only [go_sem]) | ((with_reducible refine an ?_ ?_); focus exact Au))
      refine ret_view [] ?_; simp only [go_sem]
      exact .mkTup (Vws.cons (.nil 1) (Vws.refl _))
    · have hR : R = (S, 0) := by rw [hsp, if_neg]; rw [k5]; decide
      rw [hR]
      repeat (first | ((with_reducible refine AWp.ofC ?_ ?_); (focus exact rfl); simp only [go_sem]) | ((with_reducible refine an ?_ ?_); focus exact Au))
      refine ret_eq ?_; simp only [go_sem]
end Go.AL
end
section
/- What a cut of the trace without a cut is, and what a rewritten tree says there. Plain laws. No condition. -/
namespace Go.AL
open Go Go.RowKit
set_option maxRecDepth 4000
theorem closed_iff {ps : List Pr} {c : List Int} : closedF ps c = true ↔ ∀ (p : Nat) (hp : p < ps.length) (i : Nat) (hi : i < ps[p].evs.length), ps[p].evs[i].kind = 3 → (i : Int) + 1 ≤ cAt c p → (sndr ps ps[p].evs[i].msg).2 ≤ cAt c (sndr ps ps[p].evs[i].msg).1 := by
  unfold closedF
  rw [Bool.not_eq_true', List.any_eq_false]
  constructor
  · intro h p hp i hi hk hc
    have := h _ (List.mem_of_getElem? (evIds_get hp hi))
    unfold badEv at this
    simp only [Bool.and_eq_true, decide_eq_true_eq, not_and] at this
    have := this ⟨hk, hc⟩
    unfold sndr
    omega
  · intro h x hx
    obtain ⟨k, hk⟩ := List.getElem?_of_mem hx
    obtain ⟨p, hp, i, hi, _, rfl⟩ := evIds_inv hk
    unfold badEv
    simp only [Bool.and_eq_true, decide_eq_true_eq, not_and]
    rintro ⟨h1, h2⟩
    have := h p hp i hi h1 h2
    unfold sndr at this
    omega
theorem inRange_iff {ps : List Pr} {c : List Int} (hc : c.length = ps.length) : inRangeF ps c = true ↔ ∀ (p : Nat) (hp : p < ps.length), 0 ≤ cAt c p ∧ cAt c p ≤ ps[p].evs.length := by
  constructor
  · intro h p hp
    obtain ⟨h1, h2⟩ := inRangeF_get h hc hp
    rw [cAt_nat (show p < c.length by omega)]
    exact ⟨h1, h2⟩
  · intro h
    unfold inRangeF
    rw [List.all_eq_true]
    intro p hp
    have hpc := List.mem_range.1 hp
    have hpp : p < ps.length := by omega
    have := h p hpp
    rw [cAt_nat hpc] at this
    unfold cntOk
    simp only [List.getElem?_eq_getElem hpc, List.getElem?_eq_getElem hpp, Bool.and_eq_true, decide_eq_true_eq]
    exact this
def joinL (c d : List Int) : List Int := List.zipWith (fun x y => if x < y then y else x) c d
def subL (c d : List Int) : List Int := List.zipWith (fun x y => x - y) c d
theorem zw_cAt {c d : List Int} {g : Int → Int → Int} (h : c.length = d.length) {p : Nat} (hp : p < c.length) : cAt (List.zipWith g c d) p = g (cAt c p) (cAt d p) := by
  rw [cAt_nat (show p < (List.zipWith g c d).length by rw [List.length_zipWith]; omega), cAt_nat hp, cAt_nat (show p < d.length by omega), List.getElem_zipWith]
theorem join_cAt {c d : List Int} (h : c.length = d.length) {p : Nat} (hp : p < c.length) : cAt (joinL c d) p = if cAt c p < cAt d p then cAt d p else cAt c p := zw_cAt h hp
theorem join_len {c d : List Int} (h : c.length = d.length) : (joinL c d).length = c.length := by unfold joinL; rw [List.length_zipWith]; omega
theorem join_given {ps : List Pr} {c d : List Int} (hc : givenF ps [c] [] = 0) (hd : givenF ps [d] [] = 0) : givenF ps [joinL c d] [] = 0 := by
  obtain ⟨hv, hcl, hcr, hcc⟩ := givenF_zero hc
  obtain ⟨_, hdl, hdr, hdc⟩ := givenF_zero hd
  have hl := join_len (c := c) (d := d) (by omega)
  rw [givenL]
  refine ⟨⟨hv, fun x hx => ?_⟩, fun x hx => ?_, fun x hx => ?_⟩ <;> (simp only [List.mem_singleton] at hx; subst hx)
  · omega
  · rw [inRange_iff (by omega)]
    intro p hp
    have h1 := (inRange_iff hcl).1 hcr p hp
    have h2 := (inRange_iff hdl).1 hdr p hp
    rw [join_cAt (by omega) (by omega)]
    split <;> omega
  · rw [closed_iff]
    intro p hp i hi hk hle
    obtain ⟨hq, j, hj, h1, _, _⟩ := recv_peer (valid_parts hv).2.2 hp hi hk
    rw [join_cAt (by omega) (by omega)] at hle
    have g1 := closed_iff.1 hcc p hp i hi hk
    have g2 := closed_iff.1 hdc p hp i hi hk
    rw [h1] at g1 g2 ⊢
    simp only at g1 g2 ⊢
    generalize ps[p].evs[i].peer.toNat = q at *
    rw [join_cAt (by omega) (by omega)]
    split at hle <;> split <;> omega
section
variable {ps : List Pr} {c j : List Int}
/-- A greater cut, less the dropped one, is a cut of the dropped trace. -/
theorem rest_given (hc : givenF ps [c] [] = 0) (hj : givenF ps [j] [] = 0) (hle : ∀ p, p < ps.length → cAt c p ≤ cAt j p) : givenF (dropF ps c) [subL j c] [] = 0 := by
  obtain ⟨hv, hcl, hcr, hcc⟩ := givenF_zero hc
  obtain ⟨_, hjl, hjr, hjc⟩ := givenF_zero hj
  have hm := (valid_parts hv).2.2
  have hul := dropF_length hcl
  have hum := drop_msgF hm hcl hcr
  have hl : (subL j c).length = ps.length := by unfold subL; rw [List.length_zipWith]; omega
  have hs : ∀ p : Nat, p < ps.length → cAt (subL j c) p = cAt j p - cAt c p := fun p hp => zw_cAt (by omega) (by omega)
  rw [givenL]
  refine ⟨⟨drop_valid hv hcl hcr, fun x hx => ?_⟩, fun x hx => ?_, fun x hx => ?_⟩ <;> (simp only [List.mem_singleton] at hx; subst hx)
  · omega
  · rw [inRange_iff (by omega)]
    intro p hp'
    have hp : p < ps.length := by omega
    obtain ⟨_, hpc, l1, _⟩ := drop_len hcl hp
    have h1 := (inRange_iff hcl).1 hcr p hp
    have h2 := (inRange_iff hjl).1 hjr p hp
    have h3 := hle p hp
    rw [hs p hp, l1]
    rw [cAt_nat hpc] at *
    omega
  · rw [closed_iff]
    intro p hp' i hi' hk hlt
    obtain ⟨hp, hpc, hi, e1⟩ := drop_ev hcl hp' hi'
    rw [e1] at hk ⊢
    have d := dropEv_kind (S := sentB ps c) (e := ps[p].evs[c[p].toNat + i])
    obtain ⟨k3, kS⟩ := d.2.1 hk
    rw [d.2.2.2.2 k3 kS]
    obtain ⟨hr1, hr2⟩ := inRangeF_get hcr hcl hp
    obtain ⟨hq, j0, hj0, s1, s2, s3⟩ := recv_peer hm hp hi k3
    obtain ⟨_, hst⟩ := sent_iff hm hcl hp hi k3
    rw [kS, s1] at hst
    have hgt : c[ps[p].evs[c[p].toNat + i].peer.toNat] < (j0 : Int) + 1 := by
      have := hst.symm
      rw [decide_eq_false_iff_not] at this
      simpa using this
    have hcl2 := closed_iff.1 hjc p hp (c[p].toNat + i) hi k3
    rw [hs p hp, cAt_nat hpc] at hlt
    have hcl2 := hcl2 (by omega)
    rw [s1] at hcl2
    simp only at hcl2
    have hq2 : ps[p].evs[c[p].toNat + i].peer.toNat < c.length := by omega
    obtain ⟨hs1, hs2⟩ := inRangeF_get hcr hcl hq
    obtain ⟨hq', _, l1, _⟩ := drop_len hcl hq
    have hjn : j0 - c[ps[p].evs[c[p].toNat + i].peer.toNat].toNat < (dropF ps c)[ps[p].evs[c[p].toNat + i].peer.toNat].evs.length := by omega
    obtain ⟨_, _, hx, e4⟩ := drop_ev hcl hq' hjn
    have idx : c[ps[p].evs[c[p].toNat + i].peer.toNat].toNat + (j0 - c[ps[p].evs[c[p].toNat + i].peer.toNat].toNat) = j0 := by omega
    simp only [idx] at e4
    have d2 := dropEv_kind (S := sentB ps c) (e := ps[ps[p].evs[c[p].toNat + i].peer.toNat].evs[j0])
    rw [d2.2.2.2.1 s2] at e4
    have hu := pair_unique hum hq' hjn (.inl (by rw [e4]; exact s2))
    rw [e4, s2, s3] at hu
    have hsn : sndr (dropF ps c) ps[p].evs[c[p].toNat + i].msg = _ := hu
    rw [hsn]
    simp only
    rw [hs _ hq, cAt_nat hq2]
    omega
end
end Go.AL
end
section
/- A rewritten tree says at the rest of a cut what the tree says at the cut. Plain laws. No condition. -/
namespace Go.AL
open Go Go.RowKit
set_option maxRecDepth 4000
theorem rwF_mk (c : List Int) (k n p q : Int) (s : ByteArray) (l : List Pd) : rwF c (.mk k n p q s l) = if k = 3 then .mk 6 0 0 0 ByteArray.empty [.mk k n p q s l, .mk 1 (c.getD p.toNat 0) 0 0 ByteArray.empty []] else .mk k n p q s (l.map (rwF c)) := by
  rw [rwF, rwL_map]
theorem rwF_kind (c : List Int) (t : Pd) : (rwF c t).kind = if t.kind = 3 then 6 else t.kind := by
  obtain ⟨k, n, p, q, s, l⟩ := t
  rw [rwF_mk]
  by_cases e : k = 3
  · rw [if_pos e]; subst e; rfl
  · rw [if_neg e]; exact (if_neg e).symm
theorem rwF_res (c : List Int) (t : Pd) : resF (rwF c t).kind = resF t.kind := by
  rw [rwF_kind]; split
  · rename_i h; rw [h]; rfl
  · rfl
/-- What holds of the nodes of a tree, and of sums and numbers, holds of the rewritten tree. -/
theorem rwF_all {f g : Pd → Bool} (c : List Int) (h6 : ∀ k n p q s l, k = 3 → f (.mk k n p q s l) = true → g (.mk 6 0 0 0 ByteArray.empty [.mk k n p q s l, .mk 1 (c.getD p.toNat 0) 0 0 ByteArray.empty []]) = true ∧ g (.mk k n p q s l) = true ∧ l = [] ∧ g (.mk 1 (c.getD p.toNat 0) 0 0 ByteArray.empty []) = true)
    (ho : ∀ k n p q s l, k ≠ 3 → f (.mk k n p q s l) = true → g (.mk k n p q s (l.map (rwF c))) = true) (t : Pd) : allB f t = true → allB g (rwF c t) = true := by
  induction t using Pd.ind with
  | _ k n p q s l ih =>
    intro h
    obtain ⟨h1, h2⟩ := allB_sub h
    rw [rwF_mk]
    split
    · rename_i e
      obtain ⟨g1, g2, rfl, g3⟩ := h6 k n p q s l e h1
      rw [allB_mk, g1, Bool.true_and, List.all_cons, List.all_cons, List.all_nil, allB_mk, allB_mk, g2, g3]; rfl
    · rename_i e
      rw [allB_mk, ho k n p q s l e h1, Bool.true_and, List.all_eq_true]
      intro x hx
      obtain ⟨y, hy, rfl⟩ := List.mem_map.1 hx
      exact ih y hy (h2 y hy)
theorem allB_mono {f g : Pd → Bool} (h : ∀ x, f x = true → g x = true) (t : Pd) : allB f t = true → allB g t = true := by
  induction t using Pd.ind with
  | _ k n p q s l ih =>
    intro ht
    obtain ⟨h1, h2⟩ := allB_sub ht
    rw [allB_mk, h _ h1, Bool.true_and, List.all_eq_true]
    exact fun x hx => ih x hx (h2 x hx)
theorem loc3 {k n p q : Int} {s : ByteArray} {l : List Pd} (h : locB (.mk k n p q s l) = true) (hk : k = 3) : l = [] := by
  obtain ⟨h1, _⟩ := loc_len h
  have : partsF k = 0 := by rw [hk]; rfl
  exact len0 (by omega)
section
variable {ps : List Pr} {c : List Int}
theorem resB_drop (hc : c.length = ps.length) (x : Pd) : resB (dropF ps c) x = resB ps x := by
  obtain ⟨k, n, p, q, s, l⟩ := x
  have hl := dropF_length hc
  have hk : isPB ps.length p = true → knownB (dropF ps c) p s = knownB ps p s := fun h => by
    obtain ⟨i, rfl, hp⟩ := isPB_nat h
    obtain ⟨hp', _, _, _, _, hn, _⟩ := drop_len hc hp
    unfold knownB
    simp only [Int.toNat_natCast, List.getElem?_eq_getElem hp, List.getElem?_eq_getElem hp']
    exact (nmB_fst s _ _ hn).1
  simp only [resB, hl]
  by_cases h : isPB ps.length p = true
  · rw [hk h]
  · have : isPB ps.length p = false := by simpa using h
    rw [this]; simp
theorem okT_rw (hc : c.length = ps.length) {t : Pd} (ht : okT ps t = true) (hf : formedB (rwF c t) = true) : okT (dropF ps c) (rwF c t) = true := by
  unfold okT at *
  simp only [Bool.and_eq_true] at *
  obtain ⟨⟨h1, h2⟩, h3⟩ := ht
  refine ⟨⟨?_, ?_⟩, ?_⟩
  · unfold formedB at hf; simp only [Bool.and_eq_true] at hf; exact hf.2
  · refine rwF_all (f := andB locB (resB ps)) c (fun k n p q s l e h => ?_) (fun k n p q s l e h => ?_) t (allB_and t h1 h2)
    · unfold andB at h; rw [Bool.and_eq_true] at h
      refine ⟨rfl, by rw [resB_drop hc]; exact h.2, loc3 h.1 e, rfl⟩
    · unfold andB at h; rw [Bool.and_eq_true] at h
      rw [resB_drop hc]; exact h.2
  · refine rwF_all (f := andB locB typB) c (fun k n p q s l e h => ?_) (fun k n p q s l e h => ?_) t (allB_and t h1 h3)
    · unfold andB at h; rw [Bool.and_eq_true] at h
      obtain rfl := loc3 h.1 e
      subst e
      exact ⟨rfl, rfl, rfl, rfl⟩
    · unfold andB at h; rw [Bool.and_eq_true] at h
      have ht := h.2
      unfold typB at *
      rw [Bool.not_eq_true', List.any_eq_false] at *
      intro x hx
      obtain ⟨y, hy, rfl⟩ := List.mem_map.1 hx
      have := ht y hy
      unfold tyNe at *
      rw [rwF_res]; exact this
theorem ntm_rw {t : Pd} (h1 : allB locB t = true) (h : allB ntmB t = true) : allB ntmB (rwF c t) = true := by
  refine rwF_all (f := andB locB ntmB) c (fun k n p q s l e h => ?_) (fun k n p q s l e h => ?_) t (allB_and t h1 h)
  · unfold andB at h; rw [Bool.and_eq_true] at h
    exact ⟨rfl, h.2, loc3 h.1 e, rfl⟩
  · unfold andB at h; rw [Bool.and_eq_true] at h; exact h.2
theorem nch_rw {t : Pd} (h1 : allB locB t = true) (h : allB nchB t = true) : allB nchB (rwF c t) = true := by
  refine rwF_all (f := andB locB nchB) c (fun k n p q s l e h => ?_) (fun k n p q s l e h => ?_) t (allB_and t h1 h)
  · unfold andB at h; rw [Bool.and_eq_true] at h
    exact ⟨rfl, h.2, loc3 h.1 e, rfl⟩
  · unfold andB at h; rw [Bool.and_eq_true] at h; exact h.2
/-! ### Values -/
variable {j : List Int} {ch : Int → Int → Int}
theorem val_rw (hc : givenF ps [c] [] = 0) (hj : givenF ps [j] [] = 0) (hle : ∀ p, p < ps.length → cAt c p ≤ cAt j p) (t : Pd) : okT ps t = true → t.kind ≤ 8 → allB nchB t = true → valF (cutO (dropF ps c) (subL j c) ch) (rwF c t) = valF (cutO ps j ch) t := by
  obtain ⟨hv, hcl, hcr, _⟩ := givenF_zero hc
  obtain ⟨_, hjl, _, _⟩ := givenF_zero hj
  have hs : ∀ p : Nat, p < ps.length → cAt (subL j c) p = cAt j p - cAt c p := fun p hp => zw_cAt (by omega) (by omega)
  induction t using Pd.ind with
  | _ k n p q s l ih =>
    intro ht hk hn
    obtain ⟨o1, o2, o3, o4⟩ := okT_sub ht
    obtain ⟨r2, r3, r4⟩ := res_leaf o2
    obtain ⟨n1, n2⟩ := allB_sub hn
    simp only [Pd.kind] at hk
    have hch := child_le ht (show k ≤ 12 by omega)
    rw [rwF_mk]
    split
    · rename_i e
      obtain rfl := loc3 o1 e
      obtain ⟨i, rfl, hp⟩ := isPB_nat (r3 e)
      have e1 : (cutO (dropF ps c) (subL j c) ch).cnt i = cAt j i - cAt c i := hs i hp
      have e2 : c.getD (i : Int).toNat 0 = cAt c i := rfl
      have e3 : (cutO ps j ch).cnt i = cAt j i := rfl
      rw [valF_mk, valF_mk]
      simp only [List.map_cons, List.map_nil, valF_mk, valN]
      rw [e, e1, e2, e3]
      simp
    · rename_i e
      rw [valF_mk, valF_mk, List.map_map]
      have em : l.map (valF (cutO (dropF ps c) (subL j c) ch) ∘ rwF c) = l.map (valF (cutO ps j ch)) := List.map_congr_left fun x hx => ih x hx (hch x hx).1 (hch x hx).2 (n2 x hx)
      rw [em]
      cases l with
      | cons a r => cases r <;> rfl
      | nil =>
        simp only [List.map_nil, valN]
        by_cases k1 : k = 1
        · rw [if_pos k1, if_pos k1]
        by_cases k2 : k = 2
        · rw [if_neg k1, if_pos k2, if_neg k1, if_pos k2]
          obtain ⟨i, rfl, hp⟩ := isPB_nat (r2 k2).1
          obtain ⟨hp', hpc, _, _, _, hnm, hst⟩ := drop_len hcl hp
          obtain ⟨b1, b2⟩ := inRangeF_get hcr hcl hp
          have hl := hle i hp
          have e1 := hs i hp
          have hj0 : 0 ≤ cAt j i := by have := cAt_nat hpc; omega
          show (match (dropF ps c)[(i : Int).toNat]? with | some x => (stateAt x ((subL j c).getD (i : Int).toNat 0).toNat).getD (varIx x.vars s).toNat 0 | none => 0) = (match ps[(i : Int).toNat]? with | some x => (stateAt x (j.getD (i : Int).toNat 0).toNat).getD (varIx x.vars s).toNat 0 | none => 0)
          simp only [Int.toNat_natCast, List.getElem?_eq_getElem hp, List.getElem?_eq_getElem hp']
          have e2 : ((subL j c).getD i 0) = cAt j i - cAt c i := e1
          have e3 : j.getD i 0 = cAt j i := rfl
          rw [e2, e3, hst, (nmB_fst s _ _ hnm).2]
          rw [cAt_nat hpc] at *
          congr 2
          omega
        · have : k = 4 := by
            obtain ⟨hpl, _⟩ := loc_len o1
            rcases parts_cases k with ⟨x, hx⟩ | ⟨x, hx⟩ | ⟨x, hx⟩ | x <;> simp at hpl <;> omega
          unfold nchB at n1
          simp only [decide_eq_true_eq] at n1
          exact absurd this n1
theorem tru_rw (hc : givenF ps [c] [] = 0) (hj : givenF ps [j] [] = 0) (hle : ∀ p, p < ps.length → cAt c p ≤ cAt j p) (t : Pd) : okT ps t = true → 9 ≤ t.kind → allB nchB t = true → truF (cutO (dropF ps c) (subL j c) ch) (rwF c t) = truF (cutO ps j ch) t := by
  induction t using Pd.ind with
  | _ k n p q s l ih =>
    intro ht hk hn
    obtain ⟨n1, n2⟩ := allB_sub hn
    simp only [Pd.kind] at hk
    rw [rwF_mk, if_neg (by omega), truF_mk, truF_mk, List.map_map, List.map_map]
    by_cases h12 : k ≤ 12
    · have hch := child_le ht h12
      have em : l.map (valF (cutO (dropF ps c) (subL j c) ch) ∘ rwF c) = l.map (valF (cutO ps j ch)) := List.map_congr_left fun x hx => val_rw hc hj hle x (hch x hx).1 (hch x hx).2 (n2 x hx)
      rw [em]
      have h4 : k = 9 ∨ k = 10 ∨ k = 11 ∨ k = 12 := by omega
      unfold truN
      rcases h4 with rfl | rfl | rfl | rfl <;> rfl
    · have hch := child_bool ht (by omega)
      have em : l.map (truF (cutO (dropF ps c) (subL j c) ch) ∘ rwF c) = l.map (truF (cutO ps j ch)) := List.map_congr_left fun x hx => ih x hx (hch x hx).1 (hch x hx).2 (n2 x hx)
      rw [em]
      unfold truN
      simp only [if_neg (show ¬ k = 9 by omega), if_neg (show ¬ k = 10 by omega), if_neg (show ¬ k = 11 by omega), if_neg (show ¬ k = 12 by omega)]
/-- A predicate that has a truth at a cut can be rewritten, or is too great then; rewritten, it has that truth, or is too great for the trace. -/
theorem truths (hc : givenF ps [c] [] = 0) (hj : givenF ps [j] [] = 0) (hle : ∀ p, p < ps.length → cAt c p ≤ cAt j p) (t : Pd) (hn : allB nchB t = true) (he : atE ps j t 2 = 0) :
    (rwRes t c).2 = 5 ∨ rwRes t c = (rwF c t, 0) ∧ allB nchB (rwF c t) = true ∧ (atE (dropF ps c) (subL j c) (rwF c t) 2 = 9 ∨ atE (dropF ps c) (subL j c) (rwF c t) 2 = 0) ∧ truF (cutO (dropF ps c) (subL j c) fun _ _ => 0) (rwF c t) = truF (cutO ps j fun _ _ => 0) t := by
  obtain ⟨g1, g2, g3, g4, g5⟩ := atE_zero he
  obtain ⟨f1, f2, f3, f4⟩ := checkF_zero g1
  obtain ⟨hv, hcl, hcr, _⟩ := givenF_zero hc
  have f3' := f3
  unfold okT at f3'
  simp only [Bool.and_eq_true] at f3'
  obtain ⟨⟨h1, h2⟩, h3⟩ := f3'
  have hin : c.all inB = true := by
    rw [List.all_eq_true]
    intro x hx
    obtain ⟨p, hp, rfl⟩ := List.getElem_of_mem hx
    have hpp : p < ps.length := by omega
    obtain ⟨b1, b2⟩ := inRangeF_get hcr hcl hpp
    obtain ⟨_, _, _, b3⟩ := (procF_parts hpp).1 (procF_of_valid hv hpp)
    unfold inB
    simp only [Bool.and_eq_true, decide_eq_true_eq]
    omega
  have hcov : allB (covB c.length) t = true := by
    refine allB_mono (fun x hx => ?_) t h2
    obtain ⟨k, n, p, q, s, l⟩ := x
    obtain ⟨_, r3, _⟩ := res_leaf hx
    show (!(decide (k = 3) && (decide (p < 0) || decide ((c.length : Int) ≤ p)))) = true
    by_cases e : k = 3
    · obtain ⟨i, rfl, hp⟩ := isPB_nat (r3 e)
      rw [decide_eq_false (show ¬ (i : Int) < 0 by omega), decide_eq_false (show ¬ (c.length : Int) ≤ i by omega)]; simp
    · rw [decide_eq_false e]; rfl
  unfold rwRes
  rw [f2, hin, hcov]
  simp only [Bool.not_true, Bool.or_self, Bool.false_eq_true, if_false]
  by_cases hff : formedB (rwF c t) = false
  · rw [if_pos hff]; exact .inl rfl
  · rw [if_neg hff]
    have hff : formedB (rwF c t) = true := by simpa using hff
    refine .inr ⟨rfl, nch_rw h1 hn, ?_, tru_rw hc hj hle t f3 g3 hn⟩
    have hok := okT_rw hcl f3 hff
    have hok' := hok
    unfold okT at hok'
    simp only [Bool.and_eq_true] at hok'
    have hul := dropF_length hcl
    have hl : (subL j c).length = (dropF ps c).length := by unfold subL; rw [List.length_zipWith]; omega
    unfold atE
    rw [if_neg (by simpa using hl)]
    have hck : checkF (dropF ps c) (rwF c t) = if fitB (dropF ps c) (rwF c t) = false then 9 else 0 := by
      unfold checkF
      rw [drop_valid hv hcl hcr, hff, hok'.1.2]
      unfold typedB
      rw [hok'.2]
      simp
    rw [hck]
    cases hft : fitB (dropF ps c) (rwF c t)
    · exact .inl rfl
    · refine .inr ?_
      rw [rest_given hc hj hle, ntm_rw h1 g4, rwF_res]
      have : resF t.kind = 2 := by unfold resF; rw [if_neg (by omega)]
      rw [this]
      simp
end
end Go.AL
end
