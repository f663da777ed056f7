/- Texts of this claim's proof: WDrop+1, WDv+1, WRf8+1. No condition. -/
import Derived.Test.YtkijaghkhjoomaaGreatM0
import Derived.Test.YtkijaghkhjoomaaGreatM1
import Derived.Test.YtkijaghkhjoomaaGreatM2
import Derived.Test.YtkijaghkhjoomaaGreatM3
import Derived.Test.YtkijaghkhjoomaaGreatM4
import Derived.Test.YtkijaghkhjoomaaGreatM5
import Derived.Test.YtkijaghkhjoomaaGreatM6
import Derived.Test.YtkijaghkhjoomaaGreatM7
import Derived.Test.YtkijaghkhjoomaaGreatM8
import Derived.Test.YtkijaghkhjoomaaGreatM9
import Derived.Test.YtkijaghkhjoomaaGreatM10
import Derived.Test.YtkijaghkhjoomaaGreatM11
import Derived.Test.YtkijaghkhjoomaaGreatM12
section
namespace Go.AL
open Go Go.RowKit
set_option maxRecDepth 4000
theorem mfind_iset (y : Int) (s : List Int) : (mfind (intV y) (s.map intV)).isSome = decide (y ∈ s) ∧ ∀ i, mfind (intV y) (s.map intV) = some i → i < s.length := by
  induction s with
  | nil => exact ⟨by simp [mfind], fun i h => by simp [mfind] at h⟩
  | cons x s ih =>
    have hk : keyB (intV y) (intV x) = decide (y = x) := rfl
    simp only [List.map_cons, mfind, hk, decide_eq_true_eq]
    by_cases h : y = x
    · rw [if_pos h]; exact ⟨by simp [h], fun i hi => by cases hi; simp⟩
    · rw [if_neg h]
      cases hf : mfind (intV y) (s.map intV) with
      | none => rw [hf] at ih; exact ⟨by simp [h]; simpa using ih.1, fun i hi => by cases hi⟩
      | some k => rw [hf] at ih; exact ⟨by simp [h]; simpa using ih.1, fun i hi => by cases hi; simpa using ih.2 k rfl⟩
theorem mget_iset (y : Int) (s : List Int) : mget (intV y) (s.map intV) (s.map fun _ => ab true) (ab false) = ab (decide (y ∈ s)) := by
  obtain ⟨h1, h2⟩ := mfind_iset y s
  unfold mget
  cases hf : mfind (intV y) (s.map intV) with
  | none => rw [hf] at h1; rw [← h1]; rfl
  | some i =>
    rw [hf] at h1
    rw [← h1]
    show (List.map (fun _ => ab true) s).getD i .any = ab true
    rw [List.getD_eq_getElem?_getD]
    simp [h2 i hf]
theorem mem_ins {s : List Int} {y m : Int} : m ∈ ins s y ↔ m ∈ s ∨ m = y := by
  unfold ins; split
  · rename_i h; exact ⟨.inl, fun h' => h'.elim id (fun e => e ▸ h)⟩
  · simp
theorem mput_iset (y : Int) (s : List Int) : mput (intV y) (ab true) (s.map intV) (s.map fun _ => ab true) = aISet (ins s y) := by
  obtain ⟨h1, h2⟩ := mfind_iset y s
  unfold mput
  cases hf : mfind (intV y) (s.map intV) with
  | none => rw [hf] at h1; unfold ins; rw [if_neg (by simpa using h1)]; simp [aISet]
  | some i =>
    rw [hf] at h1
    unfold ins; rw [if_pos (by simpa using h1)]
    simp only [aISet]
    congr 1
    apply List.ext_getElem?
    intro j
    rw [List.getElem?_set]
    split
    · rename_i e; subst e; simp [h2 i hf]
    · rfl
theorem fits_int (y : Int) : (KK.sc .int).fits (intV y) = true := by simp [KK.fits, intV, SK.vfits]
theorem fits_iset (s : List Int) : ((s.map intV).all (KK.sc .int).fits) = true := by
  simp only [List.all_map, List.all_eq_true]; intro x _; exact fits_int x
theorem sentB_succ {ps : List Pr} {c : List Int} {k : Nat} {m : Int} (hk : k < c.length) (hp : k < ps.length) : sentB (ps.take (k + 1)) (c.take (k + 1)) m = (sentB (ps.take k) (c.take k) m || sentP ps[k] c[k].toNat m) := by
  unfold sentB
  rw [List.take_succ_eq_append_getElem hk, List.take_succ_eq_append_getElem hp, List.zip_append (by simp; omega), List.any_append]
  simp
theorem sentP_succ {x : Pr} {j : Nat} {m : Int} (hj : j < x.evs.length) : sentP x (j + 1) m = (sentP x j m || (decide (x.evs[j].kind = 2) && decide (x.evs[j].msg = m))) := by
  unfold sentP
  rw [List.take_succ_eq_append_getElem hj, List.any_append]
  simp
theorem fresh_app (L1 L2 : AHeap) (b : Nat) : fresh (L1 ++ L2) b = (fresh L1 b ∧ fresh L2 b) := by
  induction L1 with
  | nil => simp [fresh]
  | cons x r ih => simp only [List.cons_append, fresh, ih, and_assoc]
theorem lk_skip {L1 : AHeap} {b : Nat} (h : ∀ p ∈ L1, p.1 ≠ b) (X : AHeap) : lk (L1 ++ X) b = lk X b := by
  induction L1 with
  | nil => rfl
  | cons x r ih =>
    simp only [List.cons_append, lk]
    rw [if_neg fun e => h x (by simp) e.symm, ih fun p hp => h p (List.mem_cons_of_mem _ hp)]
theorem AWp.freezeApp {C : Cfg} {cd : Code} {Q : AQ} {ρ : Env} {t : TypeId} {k : Nat} {ys : List AV} {v : AV} {Lv Lr L' : AHeap} (hA : AppSt t k ys v Lv) (hv : LVw Lv Lr L') (h : AWp C cd Q ρ L') : AWp C cd Q ρ (Lv ++ Lr) := by
  cases hA with
  | nil => exact AWp.view [] [] hv (by simp) h
  | row b ys cap => exact AWp.view [true] [] hv (by simp) h
theorem valuesAt_get {ps : List Pr} {c : List Int} {k : Nat} (hk : k < ps.length) (hkc : k < c.length) : (valuesAt ps c)[k]'(by unfold valuesAt; rw [List.length_map, List.length_zip]; omega) = stateAt ps[k] c[k].toNat := by
  unfold valuesAt; simp
theorem apart_lk {L : AHeap} {b : Nat} (h : apart L b) : lk L b = none := by
  induction L with
  | nil => rfl
  | cons x r ih =>
    obtain ⟨c, y⟩ := x
    simp only [apart] at h
    simp only [lk]
    rw [if_neg fun e => h.1 e.symm, ih h.2]
theorem dropS_succ {S : Int → Bool} {ps : List Pr} {c : List Int} {k : Nat} (hk : k < ps.length) (hkc : k < c.length) : dropS S (ps.take (k + 1)) (c.take (k + 1)) = dropS S (ps.take k) (c.take k) ++ [dropP S ps[k] c[k].toNat] := by
  unfold dropS
  rw [List.take_succ_eq_append_getElem hk, List.take_succ_eq_append_getElem hkc, List.zip_append (by simp; omega), List.map_append]
  rfl
set_option maxHeartbeats 4000000 in
theorem prune_Drop (ps : List Pr) (hs : Sm ps) (c : List Int) (hcl : c.length ≤ 1000000) : PC Go.Proofs.Tryz.prog 47 [aTr ps, aInts c] (aDrop ps c) := by
  have hat := variable_At ps hs c hcl
  unfold aAt at hat
  unfold aDrop
  refine PC.enter 138 [.cell 4 24, .tmp 5] [2, 12, 15, 18, 91, 126, 133] Go.Proofs.Tryz.func47 rfl rfl rfl rfl rfl (by simp) (AWp.of ?_); simp only [go_sem]
  intro b4
  repeat ((with_reducible refine an ?_ ?_); focus exact As)
  refine AWp.of ?_; simp only [go_sem]
  by_cases h1 : givenF ps [c] [] = 0
  · rw [if_neg (by simp [h1])] at hat
    rw [if_neg (by simp [h1])]
    obtain ⟨hv, hc, hr, _⟩ := givenF_zero h1
    repeat ((with_reducible refine an ?_ ?_); focus exact As)
    refine (hat).val.use ?_; simp only [go_sem]
    repeat (first | ((with_reducible refine AWp.ofC ?_ ?_); (focus exact rfl); simp only [go_sem]) | ((with_reducible refine an ?_ ?_); focus exact Au))
    intro b8 h48
    repeat ((with_reducible refine an ?_ ?_); focus exact As)
    refine AWp.of ?_; simp only [go_sem]
    refine AWp.range' c.length [] [1, 2, 4, 6, 8, 32, 33] (fun k vs L => ∃ s, (∀ m, m ∈ s ↔ sentB (ps.take k) (c.take k) m = true) ∧ L = [(b8, aISet s), (b4, .row 24 1 [.agg [anil]] 1)]) (by omega) rfl rfl rfl ⟨[], by intro m; simp [sentB], rfl⟩ ?_ ?_
    · rintro k vs L' hk - ⟨s, hI, rfl⟩
      have hkp : k < ps.length := by omega
      have hm := List.getElem_mem hkp
      obtain ⟨hr1, hr2⟩ := inRangeF_get hr hc hkp
      have hsu := fun m => sentB_succ (m := m) hk hkp
      have hev := hs.evs _ hm
      simp only [go_sem]
      repeat ((with_reducible refine an ?_ ?_); focus exact As)
      refine AWp.of ?_; simp only [go_sem, getD_map hk]
      repeat ((with_reducible refine an ?_ ?_); focus exact As)
      refine AWp.of ?_; simp only [go_sem, getD_map hkp]
      repeat ((with_reducible refine an ?_ ?_); focus exact As)
      have htl : (List.take c[k].toNat ps[k].evs).length = c[k].toNat := by rw [List.length_take]; omega
      refine AWp.range' c[k].toNat [] [1, 2, 4, 6, 8, 32, 33, 34, 46, 47] (fun j vs L => ∃ s, (∀ m, m ∈ s ↔ (sentB (ps.take k) (c.take k) m = true ∨ sentP ps[k] j m = true)) ∧ L = [(b8, aISet s), (b4, .row 24 1 [.agg [anil]] 1)]) (by omega) rfl (by show ai _ = ai _; rw [htl]) rfl ⟨s, by intro m; simp [hI, sentP], rfl⟩ ?_ ?_
      · rintro j vs L' hj - ⟨s, hI, rfl⟩
        have hje : j < ps[k].evs.length := by omega
        have hsu := fun m => sentP_succ (m := m) hje
        have hij : (List.map aEv (List.take c[k].toNat ps[k].evs)).getD j .any = aEv ps[k].evs[j] := by
          rw [List.getD_eq_getElem?_getD, List.getElem?_map, List.getElem?_take, if_pos hj, List.getElem?_eq_getElem hje]; rfl
        simp only [go_sem]
        repeat ((with_reducible refine an ?_ ?_); focus exact As)
        refine AWp.of ?_; simp only [go_sem, hij]
        repeat ((with_reducible refine an ?_ ?_); focus exact As)
        intros
        refine AWp.of ?_; simp only [go_sem]
        have hp := mput_iset ps[k].evs[j].msg s
        have hfk := fits_int ps[k].evs[j].msg
        have hfs := fits_iset s
        simp only [intV] at hp hfk hfs
        repeat (first | ((with_reducible refine AWp.ofC ?_ ?_); (focus exact rfl); simp only [go_sem, aISet, hfk, hfs, hp]) | ((with_reducible refine an ?_ ?_); focus exact Au))
        refine ⟨fun h2 => ?_, fun h2 => ?_⟩
        · repeat ((with_reducible refine an ?_ ?_); focus exact As)
          refine ⟨_, List.Sublist.refl _, ins s ps[k].evs[j].msg, fun m => ?_, rfl⟩
          rw [mem_ins, hI, hsu]
          simp only [h2, decide_true, Bool.true_and, Bool.or_eq_true, decide_eq_true_eq]
          rw [or_assoc, eq_comm (a := m)]
        · refine ⟨_, List.Sublist.refl _, s, fun m => ?_, rfl⟩
          rw [hI, hsu]
          simp [h2]
      · rintro vs L' - ⟨s, hI, rfl⟩
        simp only [go_sem]
        refine ⟨_, List.Sublist.refl _, s, fun m => ?_, rfl⟩
        rw [hI, hsu]; simp
    · rintro vs L' - ⟨s, hI, rfl⟩
      have hS : ∀ m, decide (m ∈ s) = sentB ps c m := fun m => by
        have h := hI m
        rw [List.take_length, hc, List.take_length] at h
        by_cases hm : m ∈ s
        · rw [decide_eq_true hm, h.1 hm]
        · rw [decide_eq_false hm]; symm; rw [← Bool.not_eq_true]; exact fun h' => hm (h.2 h')
      clear hI
      simp only [go_sem]
      repeat (first | ((with_reducible refine AWp.ofC ?_ ?_); (focus exact rfl); simp only [go_sem]) | ((with_reducible refine an ?_ ?_); focus exact Au))
      intro b13 h13 h13'
      repeat (first | ((with_reducible refine AWp.ofC ?_ ?_); (focus exact rfl); simp only [go_sem]) | ((with_reducible refine an ?_ ?_); focus exact Au))
      refine AWp.range' ps.length [] [1, 4, 6, 8, 13, 61, 62] (fun k vs L => ∃ v Ln, L = Ln ++ [(b13, .row 24 1 [.agg [v]] 1), (b8, aISet s), (b4, .row 24 1 [.agg [anil]] 1)] ∧ AppSt 81 3 ((dropS (sentB ps c) (ps.take k) (c.take k)).map aPr) v Ln ∧ ∀ p ∈ Ln, p.1 ≠ b8 ∧ p.1 ≠ b13 ∧ p.1 ≠ b4) (by omega) rfl rfl rfl ⟨anil, [], rfl, .nil, by simp⟩ ?_ ?_
      · rintro k vs L' hk - ⟨v, Ln, rfl, hA, hne⟩
        have hkc : k < c.length := by omega
        have hm := List.getElem_mem hk
        obtain ⟨hr1, hr2⟩ := inRangeF_get hr hc hk
        have hev := hs.evs _ hm
        have hvr := hs.vars _ hm
        simp only [go_sem]
        have hvl := valuesAt_get hk hkc
        have hvlen : k < (valuesAt ps c).length := by unfold valuesAt; rw [List.length_map, List.length_zip]; omega
        have hstl := stateAt_length ps[k] c[k].toNat
        have hk8 : ∀ X, lk (Ln ++ X) b8 = lk X b8 := lk_skip fun p hp => (hne p hp).1
        have hgc : (List.map ai c).getD k .any = ai c[k] := getD_map hkc
        have hgv : (List.map aInts (valuesAt ps c)).getD k .any = aInts (stateAt ps[k] c[k].toNat) := by rw [getD_map hvlen, hvl]
        repeat ((with_reducible refine an ?_ ?_); focus exact As)
        refine AWp.of ?_; simp only [go_sem, getD_map hk]
        repeat ((with_reducible refine an ?_ ?_); focus exact As)
        intros
        refine AWp.of ?_; simp only [go_sem, fresh_app]
        intro b16 hf16 m13 m8 m4
        obtain ⟨L0, hL0⟩ : ∃ L0, L0 = Ln ++ [(b13, ABlk.row 24 1 [AV.agg [v]] 1), (b8, aISet s), (b4, .row 24 1 [.agg [anil]] 1)] := ⟨_, rfl⟩
        have hk8' : lk L0 b8 = some (aISet s) := by rw [hL0, hk8]; simp only [lk, if_true]; rw [if_neg (by omega)]
        rw [← hL0]
        refine AWp.cut [1, 4, 6, 8, 13, 14, 15, 16, 61, 62, 63] (fun vs L => ∃ vv Lv, L = Lv ++ (b16, .row 81 3 [.agg [astr ps[k].name, vv, anil]] 1) :: L0 ∧ AppSt 123 2 (((ps[k].vars.map (·.1)).zip (stateAt ps[k] c[k].toNat)).map aVar) vv Lv ∧ vs = [.sl 1 (c.map ai), .lp b4 1 0 0, .sl 1 ((valuesAt ps c).map aInts), .lm b8, .lp b13 1 0 0, ai k, .rp 3 [aPr ps[k]] 0 0, .lp b16 3 0 0, .sl 3 (ps.map aPr), ai ps.length, ai k]) ?_ ?_
        · repeat ((with_reducible refine an ?_ ?_); focus exact As)
          refine AWp.of ?_; simp only [go_sem]
          refine AWp.range' ps[k].vars.length [] [1, 4, 6, 8, 13, 14, 15, 16, 61, 62, 63, 72, 73] (fun j vs L => ∃ vv Lv, L = Lv ++ (b16, .row 81 3 [.agg [astr ps[k].name, vv, anil]] 1) :: L0 ∧ AppSt 123 2 ((((ps[k].vars.map (·.1)).zip (stateAt ps[k] c[k].toNat)).take j).map aVar) vv Lv ∧ ∀ p ∈ Lv, p.1 ≠ b16) (by omega) rfl rfl rfl ⟨anil, [], rfl, .nil, by simp⟩ ?_ ?_
          · rintro j vs L' hj - ⟨vv, Lv, rfl, hAv, hnv⟩
            have hjs : j < (stateAt ps[k] c[k].toNat).length := by omega
            have hzl : j < ((ps[k].vars.map (·.1)).zip (stateAt ps[k] c[k].toNat)).length := by rw [List.length_zip, List.length_map]; omega
            have hsu : (((ps[k].vars.map (·.1)).zip (stateAt ps[k] c[k].toNat)).take (j + 1)).map aVar = (((ps[k].vars.map (·.1)).zip (stateAt ps[k] c[k].toNat)).take j).map aVar ++ [aVar (ps[k].vars[j].1, (stateAt ps[k] c[k].toNat)[j])] := by
              rw [List.take_succ_eq_append_getElem hzl, List.map_append, List.getElem_zip, List.getElem_map]; rfl
            rw [hsu]
            have hyl : ((((ps[k].vars.map (·.1)).zip (stateAt ps[k] c[k].toNat)).take j).map aVar).length ≤ 1000000 := by simp; omega
            have hgs : (List.map ai (stateAt ps[k] c[k].toNat)).getD j .any = ai (stateAt ps[k] c[k].toNat)[j] := getD_map hjs
            generalize ((((ps[k].vars.map (·.1)).zip (stateAt ps[k] c[k].toNat)).take j).map aVar) = ys at *
            rcases hAv.inv with ⟨e1, rfl, rfl⟩ | ⟨b, cap, rfl, rfl⟩
            · simp only [go_sem]
              repeat ((with_reducible refine an ?_ ?_); focus exact As)
              refine AWp.of ?_; simp only [go_sem, getD_map hj]
              repeat ((with_reducible refine an ?_ ?_); focus exact As)
              intro b18 _ _
              refine AWp.mix mixed [0, 2, 3, 4, 5, 6, 7, 8, 9, 10, 11] (.step 1 (.step 12 (.step 13 (.step 14 (.step 15 .done .done) .done) .done) .done) (.step 12 (.step 1 (.step 13 (.step 14 (.step 15 .done .done) .done) .done) .done) .done)) (by kernel_rfl) ?_; simp only [go_sem, hgv, hgs]
              repeat ((with_reducible refine an ?_ ?_); focus exact As)
              intro b' cap' hb' _ _
              have n1 : ¬ b16 = b' := by omega
              simp only [go_sem, n1]
              repeat ((with_reducible refine an ?_ ?_); focus exact As)
              refine ⟨_, List.Sublist.refl _, _, [(b', .row 123 2 [_] cap')], rfl, ?_, ?_⟩
              · rw [e1]; exact .row _ [_] _
              · intro p hp; simp at hp; subst hp; exact fun e => n1 e.symm
            · have n1 : ¬ b = b16 := hnv (b, _) List.mem_cons_self
              have n2 : ¬ b16 = b := fun e => n1 e.symm
              simp only [go_sem]
              repeat ((with_reducible refine an ?_ ?_); focus exact As)
              refine AWp.of ?_; simp only [go_sem, getD_map hj]
              repeat ((with_reducible refine an ?_ ?_); focus exact As)
              intro b18 _ _ _
              refine AWp.mix mixed [0, 2, 3, 4, 5, 6, 7, 8, 9, 10, 11] (.step 1 (.step 12 (.step 13 (.step 14 (.step 15 .done .done) .done) .done) .done) (.step 12 (.step 1 (.step 13 (.step 14 (.step 15 .done .done) .done) .done) .done) .done)) (by kernel_rfl) ?_; simp only [go_sem, hgv, hgs, n1, n2]
              repeat ((with_reducible refine an ?_ ?_); focus exact As)
              intro b' cap' hb' _ _
              simp only [go_sem, hb']
              repeat ((with_reducible refine an ?_ ?_); focus exact As)
              refine ⟨_, List.Sublist.refl _, _, [(b', .row 123 2 (ys ++ [_]) cap')], rfl, ?_, ?_⟩
              · have := AppSt.row (t := 123) (k := 2) b' (ys ++ [aVar (ps[k].vars[j].1, (stateAt ps[k] c[k].toNat)[j])]) cap'
                simpa [aVar] using this
              · intro p hp; simp at hp; subst hp; exact fun e => hb' e.symm
          · rintro vs L' - ⟨vv, Lv, rfl, hAv, hnv⟩
            simp only [go_sem]
            rw [List.take_of_length_le (by rw [List.length_zip]; omega)] at hAv
            exact ⟨_, List.Sublist.refl _, vv, Lv, rfl, hAv⟩
        · rintro vs L' - ⟨vv, Lv, rfl, hAv, rfl⟩
          simp only [go_sem]
          have hvw := hAv.vw []
          rw [List.append_nil] at hvw
          refine AWp.freezeApp hAv (.row (Vws.cons (.mkAgg (Vws.cons (.refl _) (Vws.cons hvw (Vws.refl _)))) .nil) (LVw.refl _)) ?_
          refine AWp.seq (AWp.seq ?_)
          refine AWp.mix mixed [0, 1, 2, 3, 4, 5, 6, 7, 8] .done (by kernel_rfl) ?_; simp only [go_sem, hgc]
          repeat ((with_reducible refine an ?_ ?_); focus exact As)
          have hme : ∀ e ∈ List.drop c[k].toNat ps[k].evs, e ∈ ps[k].evs := fun e he => List.mem_of_mem_drop he
          have hdl : (List.drop c[k].toNat ps[k].evs).length ≤ 1000000 := by rw [List.length_drop]; omega
          have hPr : aPr ⟨ps[k].name, (ps[k].vars.map (·.1)).zip (stateAt ps[k] c[k].toNat), (List.drop c[k].toNat ps[k].evs).map (dropEv (sentB ps c))⟩ = aPr (dropP (sentB ps c) ps[k] c[k].toNat) := rfl
          have hasg : ∀ e ∈ List.drop c[k].toNat ps[k].evs, e.asg.length ≤ 1000000 := fun e he => hs.asg _ hm e (hme e he)
          generalize List.drop c[k].toNat ps[k].evs = es at *
          generalize ((ps[k].vars.map (·.1)).zip (stateAt ps[k] c[k].toNat)) = zs at *
          refine AWp.range' es.length [] [1, 4, 6, 8, 13, 16, 61, 62, 63, 101, 102] (fun j vs L => ∃ ve Le, L = Le ++ (b16, .row 81 3 [.agg [astr ps[k].name, aVars zs, ve]] 1) :: L0 ∧ AppSt 85 5 (((es.map (dropEv (sentB ps c))).take j).map aEv) ve Le ∧ ∀ p ∈ Le, p.1 ≠ b16 ∧ p.1 ≠ b8) (by omega) rfl rfl rfl ⟨anil, [], rfl, .nil, by simp⟩ ?_ ?_
          · rintro j vs L' hj - ⟨ve, Le, rfl, hAe, hnv⟩
            have hke : ∀ X, lk (Le ++ X) b8 = lk X b8 := lk_skip fun p hp => (hnv p hp).2
            have hk16 : ∀ X, lk (Le ++ X) b16 = lk X b16 := lk_skip fun p hp => (hnv p hp).1
            have hal := hasg _ (List.getElem_mem hj)
            have hsu : ((es.map (dropEv (sentB ps c))).take (j + 1)).map aEv = ((es.map (dropEv (sentB ps c))).take j).map aEv ++ [aEv (dropEv (sentB ps c) es[j])] := by
              rw [List.take_succ_eq_append_getElem (by simpa using hj), List.map_append, List.getElem_map]; rfl
            rw [hsu]
            have hyl : (((es.map (dropEv (sentB ps c))).take j).map aEv).length ≤ 1000000 := by simp; omega
            have hgj : (es.map aEv).getD j .any = aEv es[j] := getD_map hj
            generalize ((es.map (dropEv (sentB ps c))).take j).map aEv = ys at *
            generalize es[j] = z at *
            have hdz : dropEv (sentB ps c) z = if z.kind = 3 ∧ decide (z.msg ∈ s) = true then { z with kind := 1, peer := 0, msg := 0 } else z := by rw [hS]; rfl
            simp only [go_sem]
            repeat ((with_reducible refine an ?_ ?_); focus exact As)
            refine AWp.of ?_; simp only [go_sem, hgj, fresh_app]
            repeat ((with_reducible refine an ?_ ?_); focus exact As)
            intro b20 f1 f2 f3
            repeat (first | ((with_reducible refine AWp.ofC ?_ ?_); (focus exact rfl); simp only [go_sem]) | ((with_reducible refine an ?_ ?_); focus exact Au))
            repeat ((with_reducible refine an ?_ ?_); focus exact As)
            refine (asgs_clone z.asg hal).val.use ?_; simp only [go_sem]
            refine AWp.cut [1, 4, 6, 8, 13, 16, 20, 61, 62, 63, 101, 102, 103] (fun vs L => L = (b20, .row 85 5 [aEv (dropEv (sentB ps c) z)] 1) :: (Le ++ (b16, .row 81 3 [.agg [astr ps[k].name, aVars zs, ve]] 1) :: L0) ∧ vs = [.sl 1 (c.map ai), .lp b4 1 0 0, .sl 1 ((valuesAt ps c).map aInts), .lm b8, .lp b13 1 0 0, .lp b16 3 0 0, .lp b20 5 0 0, .sl 3 (ps.map aPr), ai ps.length, ai k, .sl 5 (es.map aEv), ai es.length, ai j]) ?_ ?_
            · have hz : aEv z = aEv z := rfl
              have hg := mget_iset z.msg s
              have hfk := fits_int z.msg
              have hfs := fits_iset s
              simp only [intV] at hg hfk hfs
              have n8 : ¬ b8 = b20 := by have : b8 < b16 := m8; omega
              have n16 : ¬ b16 = b20 := by omega
              have n8' : ¬ b8 = b16 := by omega
              repeat (first | ((with_reducible refine AWp.ofC ?_ ?_); (focus exact rfl); simp only [go_sem, aISet, hfk, hfs, hg, n8, n8', hke, hk8']) | ((with_reducible refine an ?_ ?_); focus exact Au))
              refine ⟨fun h2 h3 => ?_, fun h2 => ?_⟩
              · have e := hdz
                rw [if_pos ⟨h2, by simpa using h3⟩] at e
                rw [e]
                exact ⟨_, List.Sublist.refl _, rfl⟩
              · have e := hdz
                rw [if_neg fun h => h2 h.1 (by simpa using h.2)] at e
                rw [e]
                exact ⟨_, List.Sublist.refl _, rfl⟩
            · rintro vs L' - ⟨rfl, rfl⟩
              clear hdz
              have n16 : ¬ b16 = b20 := by omega
              have n16' : ¬ b20 = b16 := by omega
              generalize dropEv (sentB ps c) z = z' at *
              rcases hAe.inv with ⟨e1, rfl, rfl⟩ | ⟨b, cap, rfl, rfl⟩
              · simp only [go_sem]
                repeat (first | ((with_reducible refine AWp.ofC ?_ ?_); (focus exact rfl); simp only [go_sem, n16, n16']) | ((with_reducible refine an ?_ ?_); focus exact Au))
                repeat ((with_reducible refine an ?_ ?_); focus exact As)
                intro b' cap' g1 g2 g3 _
                have n5 : ¬ b16 = b' := by omega
                simp only [go_sem, n5]
                repeat ((with_reducible refine an ?_ ?_); focus exact As)
                refine ⟨_, List.Sublist.cons_cons _ (List.Sublist.cons _ (List.Sublist.refl _)), _, [(b', .row 85 5 [_] cap')], rfl, ?_, ?_⟩
                · rw [e1]; exact .row _ [_] _
                · intro p hp
                  simp only [List.mem_singleton] at hp
                  subst hp
                  refine ⟨?_, ?_⟩ <;> (show ¬ b' = _; omega)
              · have n1 : ¬ b = b16 := (hnv (b, _) List.mem_cons_self).1
                have n2 : ¬ b16 = b := fun e => n1 e.symm
                have n3 : ¬ b20 = b := by have := f1; simp only [fresh] at this; omega
                have n4 : ¬ b = b20 := fun e => n3 e.symm
                simp only [go_sem]
                repeat (first | ((with_reducible refine AWp.ofC ?_ ?_); (focus exact rfl); simp only [go_sem, n16, n16', n1, n2, n3, n4]) | ((with_reducible refine an ?_ ?_); focus exact Au))
                repeat ((with_reducible refine an ?_ ?_); focus exact As)
                intro b' cap' g1 g2 g3 _
                have n5 : ¬ b' = b8 := fun e => by
                  have := apart_lk g3
                  rw [e, hk8'] at this
                  cases this
                simp only [go_sem, g2]
                repeat ((with_reducible refine an ?_ ?_); focus exact As)
                refine ⟨_, List.Sublist.cons_cons _ (List.Sublist.cons _ (List.Sublist.refl _)), _, [(b', .row 85 5 (ys ++ [_]) cap')], rfl, ?_, ?_⟩
                · have := AppSt.row (t := 85) (k := 5) b' (ys ++ [aEv z']) cap'
                  simpa [aEv, aAsgs] using this
                · intro p hp
                  simp only [List.mem_singleton] at hp
                  subst hp
                  exact ⟨fun e => g2 e.symm, n5⟩
          · rintro vs L' - ⟨ve, Le, rfl, hAe, hnv⟩
            rw [List.take_of_length_le (by simp)] at hAe
            simp only [go_sem]
            have hvw := hAe.vw []
            rw [List.append_nil] at hvw
            refine AWp.freezeApp hAe (.row (Vws.cons (.mkAgg (Vws.cons (.refl _) (Vws.cons (.refl _) (Vws.cons hvw .nil)))) .nil) (LVw.refl _)) ?_
            have hdr := dropS_succ (S := sentB ps c) hk hkc
            have hyl : ((dropS (sentB ps c) (ps.take k) (c.take k)).map aPr).length ≤ 1000000 := by simp [dropS]; omega
            rw [hdr, List.map_append]
            have hPr' : AV.agg [astr ps[k].name, AV.sl 2 (List.map aVar zs), AV.sl 5 (List.map aEv (es.map (dropEv (sentB ps c))))] = aPr (dropP (sentB ps c) ps[k] c[k].toNat) := hPr
            rw [hPr']
            generalize (dropS (sentB ps c) (ps.take k) (c.take k)).map aPr = ys at *
            generalize dropP (sentB ps c) ps[k] c[k].toNat = q at *
            have m1 : ¬ b13 = b16 := by omega
            have m2 : ¬ b16 = b13 := by omega
            rcases hA.inv with ⟨e1, rfl, rfl⟩ | ⟨b, cap, rfl, rfl⟩
            · subst hL0
              simp only [go_sem]
              repeat (first | ((with_reducible refine AWp.ofC ?_ ?_); (focus exact rfl); simp only [go_sem, m1, m2]) | ((with_reducible refine an ?_ ?_); focus exact Au))
              repeat ((with_reducible refine an ?_ ?_); focus exact As)
              intro b' cap' g1 g2 g3 g4 _
              have n3 : ¬ b13 = b' := by omega
              simp only [go_sem, n3]
              repeat ((with_reducible refine an ?_ ?_); focus exact As)
              refine ⟨_, List.Sublist.cons_cons _ (List.Sublist.cons _ (List.Sublist.refl _)), _, [(b', .row 81 3 [_] cap')], rfl, ?_, ?_⟩
              · rw [e1]; exact .row _ [_] _
              · intro p hp
                simp only [List.mem_singleton] at hp
                subst hp
                refine ⟨?_, ?_, ?_⟩ <;> (show ¬ b' = _; omega)
            · subst hL0
              have n1 : ¬ b13 = b := fun e => (hne (b, _) List.mem_cons_self).2.1 e.symm
              have n2 : ¬ b16 = b := by have := hf16; simp only [fresh] at this; omega
              have n3 : ¬ b = b16 := fun e => n2 e.symm
              simp only [go_sem]
              repeat (first | ((with_reducible refine AWp.ofC ?_ ?_); (focus exact rfl); simp only [go_sem, m1, m2, n1, n2, n3]) | ((with_reducible refine an ?_ ?_); focus exact Au))
              repeat ((with_reducible refine an ?_ ?_); focus exact As)
              intro b' cap' g1 g2 g3 g4 _
              simp only [go_sem, g2]
              repeat ((with_reducible refine an ?_ ?_); focus exact As)
              refine ⟨_, List.Sublist.cons_cons _ (List.Sublist.cons _ (List.Sublist.refl _)), _, [(b', .row 81 3 (ys ++ [_]) cap')], rfl, ?_, ?_⟩
              · have := AppSt.row (t := 81) (k := 3) b' (ys ++ [aPr q]) cap'
                simpa [aPr, aVars, aEvs] using this
              · intro p hp
                simp only [List.mem_singleton] at hp
                subst hp
                refine ⟨?_, ?_, ?_⟩ <;> (show ¬ b' = _; omega)
      · rintro vs L' - ⟨v, Ln, rfl, hA, hne⟩
        have hend : dropS (sentB ps c) (ps.take ps.length) (c.take ps.length) = dropF ps c := by rw [List.take_length, ← hc, List.take_length]; rfl
        rw [hend] at hA
        have m1 : ¬ b4 = b13 := by omega
        have m2 : ¬ b4 = b8 := by omega
        simp only [go_sem]
        rcases hA.inv with ⟨e1, rfl, rfl⟩ | ⟨b, cap, rfl, rfl⟩
        · have e2 : dropF ps c = [] := by simpa using e1
          repeat (first | ((with_reducible refine AWp.ofC ?_ ?_); (focus exact rfl); simp only [go_sem, m1, m2]) | ((with_reducible refine an ?_ ?_); focus exact Au))
          refine ret_view [] ?_; simp only [go_sem, m1, m2]
          rw [e2]
          exact .mkTup (Vws.cons (.mkAgg (Vws.cons (.nil 3) .nil)) (Vws.refl _))
        · have n1 : ¬ b13 = b := fun e => (hne (b, _) List.mem_cons_self).2.1 e.symm
          have n2 : ¬ b4 = b := fun e => (hne (b, _) List.mem_cons_self).2.2 e.symm
          repeat (first | ((with_reducible refine AWp.ofC ?_ ?_); (focus exact rfl); simp only [go_sem, n1, n2, m1, m2]) | ((with_reducible refine an ?_ ?_); focus exact Au))
          refine ret_view [true] ?_; simp only [go_sem, n2, m1, m2]
          exact .mkTup (Vws.cons (.mkAgg (Vws.cons (Vw.ofLs (if_pos rfl) (by simp)) .nil)) (Vws.refl _))
  · rw [if_pos h1] at hat
    rw [if_pos h1]
    repeat ((with_reducible refine an ?_ ?_); focus exact As)
    refine (hat).val.use ?_; simp only [go_sem]
    repeat (first | ((with_reducible refine AWp.ofC ?_ ?_); (focus exact rfl); simp only [go_sem, h1]) | ((with_reducible refine an ?_ ?_); focus exact Au))
    refine ret_view [] ?_; simp only [go_sem]
    exact .mkTup (Vws.cons (.mkAgg (Vws.cons (.nil 3) .nil)) (Vws.refl _))
end Go.AL
end
section
namespace Go.AL
open Go Go.RowKit
set_option maxRecDepth 4000
theorem asgF_of_valid {ps : List Pr} (h : validF ps = true) (p : Nat) (hp : p < ps.length) (i : Nat) (hi : i < ps[p].evs.length) (k : Nat) (hk : k < ps[p].evs[i].asg.length) : asgF ps[p].vars.length ps[p].evs[i].asg k = 0 := by
  have hef : evFirst ps = none := by
    unfold validF faultF at h
    simp only [decide_eq_true_eq] at h
    split at h
    · simp at h
    · cases h1 : procFirst ps with
      | some x =>
        rw [h1] at h
        unfold procFirst at h1
        rw [Option.map_eq_some_iff] at h1
        obtain ⟨q, hq, rfl⟩ := h1
        have := List.find?_some hq
        simp at this
        exact absurd h this
      | none =>
        rw [h1] at h
        cases h2 : evFirst ps with
        | none => rfl
        | some x =>
          rw [h2] at h
          unfold evFirst at h2
          rw [Option.map_eq_some_iff] at h2
          obtain ⟨q, hq, rfl⟩ := h2
          have := List.find?_some hq
          simp at this
          exact absurd h this
  have h0 := evFirst_get hef hp hi
  unfold evF at h0
  simp only [List.getElem?_eq_getElem hp, List.getElem?_eq_getElem hi] at h0
  split at h0
  · cases h0
  · split at h0
    · cases h0
    · split at h0
      · cases h0
      · by_cases hz : ∀ j, j < ps[p].evs[i].asg.length → asgF ps[p].vars.length ps[p].evs[i].asg j = 0
        · exact hz k hk
        · exfalso
          apply hz
          intro j hj
          induction j using Nat.strongRecOn with
          | _ j ih =>
            by_cases hj0 : asgF ps[p].vars.length ps[p].evs[i].asg j = 0
            · exact hj0
            · rw [fstF_hit hj (fun m hm => ih m hm (by omega)) hj0] at h0
              exact absurd h0 hj0
/-- The sender of a message is the process that the receive names. -/
theorem recv_peer {ps : List Pr} (hm : msgF ps = none) {p : Nat} (hp : p < ps.length) {i : Nat} (hi : i < ps[p].evs.length) (hk : ps[p].evs[i].kind = 3) :
    ∃ (hq : ps[p].evs[i].peer.toNat < ps.length) (j : Nat) (hj : j < ps[ps[p].evs[i].peer.toNat].evs.length), sndr ps ps[p].evs[i].msg = ((ps[p].evs[i].peer.toNat : Int), (j : Int) + 1) ∧ ps[ps[p].evs[i].peer.toNat].evs[j].kind = 2 ∧ ps[ps[p].evs[i].peer.toNat].evs[j].msg = ps[p].evs[i].msg := by
  have hev := evIds_get hp hi
  have hlt : off ps p + i < (evIds ps).length := (List.getElem?_eq_some_iff.1 hev).1
  have hpz : pairF ps (off ps p + i) = 0 := by
    unfold msgF at hm
    split at hm
    · cases hm
    · rename_i hn
      rw [List.find?_eq_none] at hn
      simpa using hn _ (List.mem_range.2 hlt)
  unfold pairF at hpz
  rw [hev] at hpz
  simp only at hpz
  rw [if_neg (by omega), if_pos hk] at hpz
  split at hpz
  · cases hpz
  · split at hpz
    · cases hpz
    · rename_i hs
      have hs : sendsB ps ps[p].evs[i].peer ps[p].evs[i].msg (p : Int) = true := by simpa using hs
      unfold sendsB at hs
      split at hs
      · rename_i x hx
        obtain ⟨hq, e⟩ := List.getElem?_eq_some_iff.1 hx
        subst e
        obtain ⟨e, he, h1⟩ := List.any_eq_true.1 hs
        obtain ⟨j, hj, rfl⟩ := List.getElem_of_mem he
        simp only [Bool.and_eq_true, decide_eq_true_iff] at h1
        refine ⟨hq, j, hj, ?_, h1.1.1, h1.1.2⟩
        have := pair_unique hm hq hj (.inl h1.1.1)
        rw [h1.1.1, h1.1.2] at this
        exact this
      · cases hs
theorem sent_iff {ps : List Pr} (hm : msgF ps = none) {c : List Int} (hc : c.length = ps.length) {p : Nat} (hp : p < ps.length) {i : Nat} (hi : i < ps[p].evs.length) (hk : ps[p].evs[i].kind = 3) :
    ∃ hq : ps[p].evs[i].peer.toNat < c.length, sentB ps c ps[p].evs[i].msg = decide ((sndr ps ps[p].evs[i].msg).2 ≤ c[ps[p].evs[i].peer.toNat]) := by
  obtain ⟨hq, j, hj, h1, h2, h3⟩ := recv_peer hm hp hi hk
  refine ⟨by omega, ?_⟩
  rw [Bool.eq_iff_iff, decide_eq_true_iff, h1]
  unfold sentB
  rw [List.any_eq_true]
  constructor
  · rintro ⟨x, hx, hs⟩
    obtain ⟨q, hql, rfl⟩ := List.getElem_of_mem hx
    rw [List.length_zip] at hql
    rw [List.getElem_zip] at hs
    unfold sentP at hs
    obtain ⟨e, he, h4⟩ := List.any_eq_true.1 hs
    obtain ⟨k, hk2, rfl⟩ := List.getElem_of_mem he
    rw [List.length_take] at hk2
    dsimp only at h4 hk2
    rw [List.getElem_take] at h4
    simp only [Bool.and_eq_true, decide_eq_true_iff] at h4
    have hu := pair_unique hm (show q < ps.length by omega) (show k < ps[q].evs.length by omega) (.inl h4.1)
    rw [h4.1, h4.2] at hu
    unfold sndr at h1
    rw [hu, Prod.mk.injEq] at h1
    have e1 : q = ps[p].evs[i].peer.toNat := by omega
    have e2 : k = j := by omega
    subst e1; subst e2
    show (k : Int) + 1 ≤ _
    omega
  · intro h
    dsimp only at h
    refine ⟨(ps[ps[p].evs[i].peer.toNat], c[ps[p].evs[i].peer.toNat]), ?_, ?_⟩
    · refine List.mem_of_getElem? (i := ps[p].evs[i].peer.toNat) ?_
      rw [List.getElem?_zip_eq_some]
      exact ⟨List.getElem?_eq_getElem hq, List.getElem?_eq_getElem (by omega)⟩
    · unfold sentP
      rw [List.any_eq_true]
      refine ⟨_, List.mem_of_getElem? (i := j) ?_, by rw [h2, h3]; simp⟩
      rw [List.getElem?_take, if_pos (by dsimp only; omega), List.getElem?_eq_getElem hj]
end Go.AL
end
section
namespace Go.AL
open Go Go.RowKit
set_option maxRecDepth 4000
theorem ref25_CutFault (ps : List Pr) (hs : Sm ps) (c : List Int) : PC Go.Proofs.Tryz.prog 46 [aTr ps, aInts c] (ai (givenF ps [c] [])) := by
  refine PC.enter 24 [.tmp 4] [2] Go.Proofs.Tryz.func46 rfl rfl rfl rfl rfl (by simp) (AWp.of ?_); simp only [go_sem]
  repeat (first | ((with_reducible refine AWp.ofC ?_ ?_); (focus exact rfl); simp only [go_sem]) | ((with_reducible refine an ?_ ?_); focus exact Au))
  repeat ((with_reducible refine an ?_ ?_); focus exact As)
  refine (ref12_Valid ps hs).val.use ?_; simp only [go_sem]
  have hsz : sizedF ps [c] = (validF ps && decide (c.length = ps.length)) := by unfold sizedF; simp
  have hg : givenF ps [c] [] = if !(validF ps && decide (c.length = ps.length)) then 1 else if !inRangeF ps c then 2 else if !closedF ps c then 18 else 0 := by
    unfold givenF
    rw [hsz]
    simp
  repeat (first | ((with_reducible refine AWp.ofC ?_ ?_); (focus exact rfl); simp only [go_sem]) | ((with_reducible refine an ?_ ?_); focus exact Au))
  refine ⟨fun h1 => ?_, fun h1 => ?_⟩
  · repeat (first | ((with_reducible refine AWp.ofC ?_ ?_); (focus exact rfl); simp only [go_sem]) | ((with_reducible refine an ?_ ?_); focus exact Au))
    refine ret_eq ?_; simp only [go_sem]
    rw [hg, if_pos]
    rcases h1 with h1 | h1
    · rw [h1]; rfl
    · rw [decide_eq_false (by omega), Bool.and_false]; rfl
  · intro h2
    have hc : c.length = ps.length := by omega
    have hg : givenF ps [c] [] = if !inRangeF ps c then 2 else if !closedF ps c then 18 else 0 := by
      rw [hg, if_neg (by rw [h1, decide_eq_true hc]; decide)]
    have hct := ref12_Cut ps hs c
    rw [decide_eq_true hc, Bool.true_and] at hct
    repeat (first | ((with_reducible refine AWp.ofC ?_ ?_); (focus exact rfl); simp only [go_sem]) | ((with_reducible refine an ?_ ?_); focus exact Au))
    repeat ((with_reducible refine an ?_ ?_); focus exact As)
    refine (hct).val.use ?_; simp only [go_sem]
    repeat (first | ((with_reducible refine AWp.ofC ?_ ?_); (focus exact rfl); simp only [go_sem]) | ((with_reducible refine an ?_ ?_); focus exact Au))
    refine ⟨fun h3 => ?_, fun h3 => ?_⟩
    · repeat (first | ((with_reducible refine AWp.ofC ?_ ?_); (focus exact rfl); simp only [go_sem]) | ((with_reducible refine an ?_ ?_); focus exact Au))
      refine ret_eq ?_; simp only [go_sem]
      rw [hg, if_pos (by rw [h3]; rfl)]
    · have hg : givenF ps [c] [] = if !closedF ps c then 18 else 0 := by rw [hg, if_neg (by rw [h3]; decide)]
      repeat (first | ((with_reducible refine AWp.ofC ?_ ?_); (focus exact rfl); simp only [go_sem]) | ((with_reducible refine an ?_ ?_); focus exact Au))
      repeat ((with_reducible refine an ?_ ?_); focus exact As)
      refine (ref12_Consistent ps hs (valid_len h1).1 c hc h3).val.use ?_; simp only [go_sem]
      repeat (first | ((with_reducible refine AWp.ofC ?_ ?_); (focus exact rfl); simp only [go_sem]) | ((with_reducible refine an ?_ ?_); focus exact Au))
      refine ⟨fun h4 => ?_, fun h4 => ?_⟩
      · repeat (first | ((with_reducible refine AWp.ofC ?_ ?_); (focus exact rfl); simp only [go_sem]) | ((with_reducible refine an ?_ ?_); focus exact Au))
        refine ret_eq ?_; simp only [go_sem]
        rw [hg, if_pos (by rw [h4]; rfl)]
      · repeat (first | ((with_reducible refine AWp.ofC ?_ ?_); (focus exact rfl); simp only [go_sem]) | ((with_reducible refine an ?_ ?_); focus exact Au))
        refine ret_eq ?_; simp only [go_sem]
        rw [hg, if_neg (by rw [h4]; decide)]
end Go.AL
end
