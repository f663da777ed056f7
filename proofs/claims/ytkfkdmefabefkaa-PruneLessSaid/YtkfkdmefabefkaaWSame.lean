/- The reference of layer 12: equal traces. No condition. -/
import Derived.Test.YtkfkdmefabefkaaWKn2
namespace Go.AL
open Go Go.RowKit
set_option maxRecDepth 4000
theorem ref12_SameEvent (a b : Ev) (ha : a.asg.length ≤ 1000000) : PC Go.Proofs.Try.prog 39 [aEv a, aEv b] (ab (decide (a = b))) := by
  refine PC.enter 59 [.tmp 4] [2, 3] Go.Proofs.Try.func39 rfl rfl rfl rfl rfl (by simp) (AWp.of ?_); simp only [go_sem]
  repeat (first | ((with_reducible refine AWp.ofC ?_ ?_); (focus exact rfl); simp only [go_sem]) | ((with_reducible refine And.intro ?_ ?_); focus first | exact True.intro | omega | (intros; (with_reducible and_intros) <;> first | (with_reducible assumption) | omega; done)))
  refine ⟨fun h1 => ?_, fun h1 h2 h3 h4 h5 => ?_⟩
  · repeat (first | ((with_reducible refine AWp.ofC ?_ ?_); (focus exact rfl); simp only [go_sem]) | ((with_reducible refine And.intro ?_ ?_); focus first | exact True.intro | omega | (intros; (with_reducible and_intros) <;> first | (with_reducible assumption) | omega; done)))
    refine ret_eq ?_; simp only [go_sem]
    congr 2; symm; apply decide_eq_false; rintro rfl; simp at h1
  · have hl : a.asg.length = b.asg.length := by omega
    repeat (first | ((with_reducible refine AWp.ofC ?_ ?_); (focus exact rfl); simp only [go_sem]) | ((with_reducible refine And.intro ?_ ?_); focus first | exact True.intro | omega | (intros; (with_reducible and_intros) <;> first | (with_reducible assumption) | omega; done)))
    refine AWp.block (AWp.count 5 a.asg.length [] [2, 3] (fun k vs L => L = [] ∧ ∀ (i : Nat) (hi : i < a.asg.length), i < k → a.asg[i] = b.asg[i]) rfl rfl ⟨rfl, by omega⟩ ?_)
    rintro k vs L' hk - ⟨rfl, hI⟩
    simp only [go_sem]
    repeat (first | ((with_reducible refine AWp.ofC ?_ ?_); (focus exact rfl); simp only [go_sem]) | ((with_reducible refine And.intro ?_ ?_); focus first | exact True.intro | omega | (intros; (with_reducible and_intros) <;> first | (with_reducible assumption) | omega; done)))
    refine ⟨fun h6 => ?_, fun h6 => ?_⟩
    · have hka : k < a.asg.length := by omega
      have hkb : k < b.asg.length := by omega
      refine AWp.seq (AWp.block (AWp.seq ?_))
      refine AWp.drawn mixed 11 (by kernel_rfl) ?_; simp only [go_sem, getD_map hka, getD_map hkb]
      repeat ((with_reducible refine And.intro ?_ ?_); focus first | exact True.intro | omega | (intros; (with_reducible and_intros) <;> first | (with_reducible assumption) | omega; done) | (simp; done) | (simp; omega))
      repeat (first | ((with_reducible refine AWp.ofC ?_ ?_); (focus exact rfl); simp only [go_sem]) | ((with_reducible refine And.intro ?_ ?_); focus first | exact True.intro | omega | (intros; (with_reducible and_intros) <;> first | (with_reducible assumption) | omega; done)))
      refine ⟨fun h7 => ?_, fun h7 h8 => ?_⟩
      · repeat (first | ((with_reducible refine AWp.ofC ?_ ?_); (focus exact rfl); simp only [go_sem]) | ((with_reducible refine And.intro ?_ ?_); focus first | exact True.intro | omega | (intros; (with_reducible and_intros) <;> first | (with_reducible assumption) | omega; done)))
        refine ret_eq ?_; simp only [go_sem]
        congr 2; symm; apply decide_eq_false; rintro rfl; simp at h7
      · repeat (first | ((with_reducible refine AWp.ofC ?_ ?_); (focus exact rfl); simp only [go_sem]) | ((with_reducible refine And.intro ?_ ?_); focus first | exact True.intro | omega | (intros; (with_reducible and_intros) <;> first | (with_reducible assumption) | omega; done)))
        refine ⟨_, List.Sublist.refl _, rfl, fun i hi hik => ?_⟩
        by_cases e : i = k
        · subst e; exact Prod.ext h7 h8
        · exact hI i hi (by omega)
    · repeat (first | ((with_reducible refine AWp.ofC ?_ ?_); (focus exact rfl); simp only [go_sem]) | ((with_reducible refine And.intro ?_ ?_); focus first | exact True.intro | omega | (intros; (with_reducible and_intros) <;> first | (with_reducible assumption) | omega; done)))
      refine ret_eq ?_; simp only [go_sem]
      congr 2; symm; apply decide_eq_true
      obtain ⟨k1, k2, k3, k4, k5⟩ := a
      obtain ⟨m1, m2, m3, m4, m5⟩ := b
      simp only [Ev.mk.injEq]
      simp only at h1 h2 h3 h4 h5 hI h6 hl
      exact ⟨h1, h2, h3, h4, List.ext_getElem hl (fun i hi _ => hI i hi (by omega))⟩
theorem ref12_Same (a b : List Pr) (ha : Sm a) : PC Go.Proofs.Try.prog 21 [aTr a, aTr b] (ab (decide (a = b))) := by
  have hla := ha.procs
  refine PC.enter 94 [.tmp 4] [2, 3, 6, 7] Go.Proofs.Try.func21 rfl rfl rfl rfl rfl (by simp) (AWp.of ?_); simp only [go_sem]
  repeat (first | ((with_reducible refine AWp.ofC ?_ ?_); (focus exact rfl); simp only [go_sem]) | ((with_reducible refine And.intro ?_ ?_); focus first | exact True.intro | omega | (intros; (with_reducible and_intros) <;> first | (with_reducible assumption) | omega; done)))
  refine ⟨fun h1 => ?_, fun h1 => ?_⟩
  · repeat (first | ((with_reducible refine AWp.ofC ?_ ?_); (focus exact rfl); simp only [go_sem]) | ((with_reducible refine And.intro ?_ ?_); focus first | exact True.intro | omega | (intros; (with_reducible and_intros) <;> first | (with_reducible assumption) | omega; done)))
    refine ret_eq ?_; simp only [go_sem]
    congr 2; symm; apply decide_eq_false; rintro rfl; simp at h1
  · have hl : a.length = b.length := by omega
    repeat (first | ((with_reducible refine AWp.ofC ?_ ?_); (focus exact rfl); simp only [go_sem]) | ((with_reducible refine And.intro ?_ ?_); focus first | exact True.intro | omega | (intros; (with_reducible and_intros) <;> first | (with_reducible assumption) | omega; done)))
    refine AWp.block (AWp.count 5 a.length [] [2, 3] (fun k vs L => L = [] ∧ ∀ (i : Nat) (hi : i < a.length), i < k → a[i] = b[i]) rfl rfl ⟨rfl, by omega⟩ ?_)
    rintro k vs L' hk - ⟨rfl, hI⟩
    simp only [go_sem]
    repeat (first | ((with_reducible refine AWp.ofC ?_ ?_); (focus exact rfl); simp only [go_sem]) | ((with_reducible refine And.intro ?_ ?_); focus first | exact True.intro | omega | (intros; (with_reducible and_intros) <;> first | (with_reducible assumption) | omega; done)))
    refine ⟨fun h2 => ?_, fun h2 => ?_⟩
    · have hka : k < a.length := by omega
      have hkb : k < b.length := by omega
      have hm := List.getElem_mem hka
      have hev := ha.evs _ hm
      have hvr := ha.vars _ hm
      have hne : a[k] ≠ b[k] → decide (a = b) = false := fun h => decide_eq_false (fun e => h (by subst e; rfl))
      have hA : (List.map aPr a).getD k .any = aPr a[k] := getD_map hka
      have hB : (List.map aPr b).getD k .any = aPr b[k] := getD_map hkb
      have hasg := ha.asg _ hm
      have hxy : a[k] = b[k] → ∀ (i : Nat) (hi : i < a.length), i = k → a[i] = b[i] := by intro h i hi e; subst e; exact h
      generalize a[k] = x at *
      generalize b[k] = y at *
      refine AWp.seq (AWp.block (AWp.cut [2, 3, 5, 6, 7] (fun vs L => L = [] ∧ vs = [.rp 1 [aTr a] 0 0, .rp 1 [aTr b] 0 0, ai k, .rp 3 [aPr x] 0 0, .rp 3 [aPr y] 0 0]) ?_ ?_))
      · refine AWp.mix mixed [0, 1, 2, 3, 4, 5, 6, 7, 8, 9] (.step 10 (.step 11 (.step 12 (.step 13 .done .done) .done) .done) (.step 11 (.step 10 (.step 12 (.step 13 .done .done) .done) .done) .done)) (by kernel_rfl) ?_; simp only [go_sem, hA, hB]
        repeat ((with_reducible refine And.intro ?_ ?_); focus first | exact True.intro | omega | (intros; (with_reducible and_intros) <;> first | (with_reducible assumption) | omega; done) | (simp; done) | (simp; omega))
        refine ⟨fun b1 b2 hb => ?_, fun b1 b2 hb => ?_⟩
        · have n1 : ¬ b1 = b2 := by omega
          have n2 : ¬ b2 = b1 := by omega
          try simp only [go_sem, n1, n2]
          exact ⟨_, List.Sublist.refl _, by simp⟩
        · have n1 : ¬ b1 = b2 := by omega
          have n2 : ¬ b2 = b1 := by omega
          try simp only [go_sem, n1, n2]
          exact ⟨_, List.Sublist.refl _, by simp⟩
      · rintro vs L' - ⟨rfl, rfl⟩
        simp only [go_sem]
        repeat (first | ((with_reducible refine AWp.ofC ?_ ?_); (focus exact rfl); simp only [go_sem]) | ((with_reducible refine And.intro ?_ ?_); focus first | exact True.intro | omega | (intros; (with_reducible and_intros) <;> first | (with_reducible assumption) | omega; done)))
        refine ⟨fun h3 => ?_, fun h3 h4 h5 => ?_⟩
        · repeat (first | ((with_reducible refine AWp.ofC ?_ ?_); (focus exact rfl); simp only [go_sem]) | ((with_reducible refine And.intro ?_ ?_); focus first | exact True.intro | omega | (intros; (with_reducible and_intros) <;> first | (with_reducible assumption) | omega; done)))
          refine ret_eq ?_; simp only [go_sem]
          congr 2; symm; apply hne; rintro rfl; simp at h3
        · have hlv : x.vars.length = y.vars.length := by omega
          have hle : x.evs.length = y.evs.length := by omega
          repeat (first | ((with_reducible refine AWp.ofC ?_ ?_); (focus exact rfl); simp only [go_sem]) | ((with_reducible refine And.intro ?_ ?_); focus first | exact True.intro | omega | (intros; (with_reducible and_intros) <;> first | (with_reducible assumption) | omega; done)))
          refine AWp.block (AWp.count 8 x.vars.length [] [2, 3, 5, 6, 7] (fun j vs L => L = [] ∧ ∀ (i : Nat) (hi : i < x.vars.length), i < j → x.vars[i] = y.vars[i]) rfl rfl ⟨rfl, by omega⟩ ?_)
          rintro j vs L' hj - ⟨rfl, hJ⟩
          simp only [go_sem]
          repeat (first | ((with_reducible refine AWp.ofC ?_ ?_); (focus exact rfl); simp only [go_sem]) | ((with_reducible refine And.intro ?_ ?_); focus first | exact True.intro | omega | (intros; (with_reducible and_intros) <;> first | (with_reducible assumption) | omega; done)))
          refine ⟨fun h6 => ?_, fun h6 => ?_⟩
          · have hja : j < x.vars.length := by omega
            have hjb : j < y.vars.length := by omega
            refine AWp.seq (AWp.block (AWp.seq ?_))
            refine AWp.drawn mixed 11 (by kernel_rfl) ?_; simp only [go_sem, getD_map hja, getD_map hjb]
            repeat ((with_reducible refine And.intro ?_ ?_); focus first | exact True.intro | omega | (intros; (with_reducible and_intros) <;> first | (with_reducible assumption) | omega; done) | (simp; done) | (simp; omega))
            repeat (first | ((with_reducible refine AWp.ofC ?_ ?_); (focus exact rfl); simp only [go_sem]) | ((with_reducible refine And.intro ?_ ?_); focus first | exact True.intro | omega | (intros; (with_reducible and_intros) <;> first | (with_reducible assumption) | omega; done)))
            refine ⟨fun h7 => ?_, fun h7 h8 => ?_⟩
            · repeat (first | ((with_reducible refine AWp.ofC ?_ ?_); (focus exact rfl); simp only [go_sem]) | ((with_reducible refine And.intro ?_ ?_); focus first | exact True.intro | omega | (intros; (with_reducible and_intros) <;> first | (with_reducible assumption) | omega; done)))
              refine ret_eq ?_; simp only [go_sem]
              congr 2; symm; apply hne; rintro rfl; simp at h7
            · repeat (first | ((with_reducible refine AWp.ofC ?_ ?_); (focus exact rfl); simp only [go_sem]) | ((with_reducible refine And.intro ?_ ?_); focus first | exact True.intro | omega | (intros; (with_reducible and_intros) <;> first | (with_reducible assumption) | omega; done)))
              refine ⟨_, List.Sublist.refl _, rfl, fun i hi hij => ?_⟩
              by_cases e : i = j
              · subst e; exact Prod.ext h7 h8
              · exact hJ i hi (by omega)
          · repeat (first | ((with_reducible refine AWp.ofC ?_ ?_); (focus exact rfl); simp only [go_sem]) | ((with_reducible refine And.intro ?_ ?_); focus first | exact True.intro | omega | (intros; (with_reducible and_intros) <;> first | (with_reducible assumption) | omega; done)))
            refine AWp.block (AWp.count 9 x.evs.length [] [2, 3, 5, 6, 7] (fun j vs L => L = [] ∧ ∀ (i : Nat) (hi : i < x.evs.length), i < j → x.evs[i] = y.evs[i]) rfl rfl ⟨rfl, by omega⟩ ?_)
            rintro m vs L' hm - ⟨rfl, hM⟩
            simp only [go_sem]
            repeat (first | ((with_reducible refine AWp.ofC ?_ ?_); (focus exact rfl); simp only [go_sem]) | ((with_reducible refine And.intro ?_ ?_); focus first | exact True.intro | omega | (intros; (with_reducible and_intros) <;> first | (with_reducible assumption) | omega; done)))
            refine ⟨fun h9 => ?_, fun h9 => ?_⟩
            · have hma : m < x.evs.length := by omega
              have hmb : m < y.evs.length := by omega
              refine AWp.seq (AWp.block (AWp.seq ?_))
              refine AWp.drawn mixed 10 (by kernel_rfl) ?_; simp only [go_sem, getD_map hma, getD_map hmb]
              repeat ((with_reducible refine And.intro ?_ ?_); focus first | exact True.intro | omega | (intros; (with_reducible and_intros) <;> first | (with_reducible assumption) | omega; done) | (simp; done) | (simp; omega))
              repeat ((with_reducible refine And.intro ?_ ?_); focus first | exact True.intro | omega | (intros; (with_reducible and_intros) <;> first | (with_reducible assumption) | omega; done) | (simp; done) | (simp; omega))
              refine (ref12_SameEvent x.evs[m] y.evs[m] (hasg _ (List.getElem_mem hma))).val.use ?_; simp only [go_sem]
              repeat (first | ((with_reducible refine AWp.ofC ?_ ?_); (focus exact rfl); simp only [go_sem]) | ((with_reducible refine And.intro ?_ ?_); focus first | exact True.intro | omega | (intros; (with_reducible and_intros) <;> first | (with_reducible assumption) | omega; done)))
              refine ⟨fun h7 => ?_, fun h7 => ?_⟩
              · repeat (first | ((with_reducible refine AWp.ofC ?_ ?_); (focus exact rfl); simp only [go_sem]) | ((with_reducible refine And.intro ?_ ?_); focus first | exact True.intro | omega | (intros; (with_reducible and_intros) <;> first | (with_reducible assumption) | omega; done)))
                refine ret_eq ?_; simp only [go_sem]
                congr 2; symm; apply hne; rintro rfl; exact h7 rfl
              · repeat (first | ((with_reducible refine AWp.ofC ?_ ?_); (focus exact rfl); simp only [go_sem]) | ((with_reducible refine And.intro ?_ ?_); focus first | exact True.intro | omega | (intros; (with_reducible and_intros) <;> first | (with_reducible assumption) | omega; done)))
                refine ⟨_, List.Sublist.refl _, rfl, fun i hi hij => ?_⟩
                by_cases e : i = m
                · subst e; exact h7
                · exact hM i hi (by omega)
            · repeat (first | ((with_reducible refine AWp.ofC ?_ ?_); (focus exact rfl); simp only [go_sem]) | ((with_reducible refine And.intro ?_ ?_); focus first | exact True.intro | omega | (intros; (with_reducible and_intros) <;> first | (with_reducible assumption) | omega; done)))
              refine ⟨_, List.Sublist.refl _, rfl, fun i hi hik => ?_⟩
              by_cases e : i = k
              · refine hxy ?_ i hi e
                obtain ⟨k1, k2, k3⟩ := x
                obtain ⟨m1, m2, m3⟩ := y
                simp only [Pr.mk.injEq]
                simp only at h3 hlv hle hJ hM h6 h9
                exact ⟨h3, List.ext_getElem hlv (fun i hi _ => hJ i hi (by omega)), List.ext_getElem hle (fun i hi _ => hM i hi (by omega))⟩
              · exact hI i hi (by omega)
    · repeat (first | ((with_reducible refine AWp.ofC ?_ ?_); (focus exact rfl); simp only [go_sem]) | ((with_reducible refine And.intro ?_ ?_); focus first | exact True.intro | omega | (intros; (with_reducible and_intros) <;> first | (with_reducible assumption) | omega; done)))
      refine ret_eq ?_; simp only [go_sem]
      congr 2; symm; apply decide_eq_true
      exact List.ext_getElem hl (fun i hi _ => hI i hi (by omega))
end Go.AL
