/- The package trace, second part: the faults of a process. No condition. -/
import Derived.Test.YtkfkdmefabefkaaWTr1
namespace Go.AL
open Go Go.RowKit
set_option maxRecDepth 4000
def varF (vs : List (ByteArray × Int)) (i : Nat) : Int :=
  match vs[i]? with
  | some v => if !nameOk v.1 || (vs.take i).any (fun w => decide (w.1 = v.1)) then 13 else if !inI v.2 (-1073741824) 1073741824 then 2 else 0
  | none => 0
def procF (ps : List Pr) (p : Nat) : Int :=
  match ps[p]? with
  | some x => if !nameOk x.name || (ps.take p).any (fun y => decide (y.name = x.name)) then 13 else if 8 < x.vars.length then 5 else
      if fstF (varF x.vars) x.vars.length ≠ 0 then fstF (varF x.vars) x.vars.length else if 64 < x.evs.length then 5 else 0
  | none => 0
theorem trace_processFault1 (y x : Pr) : PC Go.Proofs.Try.prog 68 [aPr y, .rp 3 [aPr x] 0 0] (ab (decide (y.name = x.name))) := by
  refine PC.enter 9 [.tmp 3] [2] Go.Proofs.Try.func68 rfl rfl rfl rfl rfl (by simp) (AWp.of ?_); simp only [go_sem]
  repeat ((with_reducible refine And.intro ?_ ?_); focus first | exact True.intro | omega | (intros; (with_reducible and_intros) <;> first | (with_reducible assumption) | omega; done) | (simp; done) | (simp; omega))
  refine AWp.of ?_; simp only [go_sem]
  repeat ((with_reducible refine And.intro ?_ ?_); focus first | exact True.intro | omega | (intros; (with_reducible and_intros) <;> first | (with_reducible assumption) | omega; done) | (simp; done) | (simp; omega))
  refine AWp.of ?_; simp only [go_sem]
  refine ret_eq ?_; simp only [go_sem]
theorem trace_processFault2 (y x : ByteArray × Int) : PC Go.Proofs.Try.prog 70 [aVar y, .rp 2 [aVar x] 0 0] (ab (decide (y.1 = x.1))) := by
  refine PC.enter 9 [.tmp 3] [2] Go.Proofs.Try.func70 rfl rfl rfl rfl rfl (by simp) (AWp.of ?_); simp only [go_sem]
  repeat ((with_reducible refine And.intro ?_ ?_); focus first | exact True.intro | omega | (intros; (with_reducible and_intros) <;> first | (with_reducible assumption) | omega; done) | (simp; done) | (simp; omega))
  refine AWp.of ?_; simp only [go_sem]
  repeat ((with_reducible refine And.intro ?_ ?_); focus first | exact True.intro | omega | (intros; (with_reducible and_intros) <;> first | (with_reducible assumption) | omega; done) | (simp; done) | (simp; omega))
  refine AWp.of ?_; simp only [go_sem]
  refine ret_eq ?_; simp only [go_sem]
theorem trace_processFault (ps : List Pr) (hs : Sm ps) (p : Nat) (hp : p < ps.length) : PC Go.Proofs.Try.prog 57 [aTr ps, ai p] (ai (procF ps p)) := by
  have hm := List.getElem_mem hp
  refine PC.enter 62 [.tmp 4] [2, 5, 7] Go.Proofs.Try.func57 rfl rfl rfl rfl rfl (by simp) (AWp.of ?_); simp only [go_sem]
  repeat ((with_reducible refine And.intro ?_ ?_); focus first | exact True.intro | omega | (intros; (with_reducible and_intros) <;> first | (with_reducible assumption) | omega; done) | (simp; done) | (simp; omega))
  refine AWp.of ?_; simp only [go_sem, getD_map hp]
  repeat ((with_reducible refine And.intro ?_ ?_); focus first | exact True.intro | omega | (intros; (with_reducible and_intros) <;> first | (with_reducible assumption) | omega; done) | (simp; done) | (simp; omega))
  intros
  refine AWp.of ?_; simp only [go_sem]
  refine (trace_isName _).val.use ?_
  simp only [go_sem]
  repeat ((with_reducible refine And.intro ?_ ?_); focus first | exact True.intro | omega | (intros; (with_reducible and_intros) <;> first | (with_reducible assumption) | omega; done) | (simp; done) | (simp; omega))
  refine GCall.use (ab ((ps.take p).any fun y => decide (y.name = ps[p].name))) (fun _ => ⟨(by first | exact True.intro | omega | (intros; (with_reducible and_intros) <;> first | (with_reducible assumption) | omega) | (simp; done) | (simp; omega) | (intros; simp_all; done) | (intros; simp_all; omega)), (procs_containsFunc (ps.take p) (take_le hs.procs) (.clo 68 [.rp 3 [aPr ps[p]] 0 0]) rfl (fun y => decide (y.name = ps[p].name)) fun y _ => (trace_processFault1 y ps[p]).clo).val.use ⟨rfl, rfl⟩⟩) ?_; simp only [go_sem]
  repeat ((with_reducible refine And.intro ?_ ?_); focus first | exact True.intro | omega | (intros; (with_reducible and_intros) <;> first | (with_reducible assumption) | omega; done) | (simp; done) | (simp; omega))
  refine AWp.of ?_; simp only [go_sem]
  refine ⟨fun ht => ?_, fun h1 h2 => ?_⟩
  · repeat ((with_reducible refine And.intro ?_ ?_); focus first | exact True.intro | omega | (intros; (with_reducible and_intros) <;> first | (with_reducible assumption) | omega; done) | (simp; done) | (simp; omega))
    refine AWp.of ?_; simp only [go_sem]
    refine ret_eq ?_; simp only [go_sem]
    simp only [procF, List.getElem?_eq_getElem hp]; rw [if_pos (by simpa using ht)]
  · repeat ((with_reducible refine And.intro ?_ ?_); focus first | exact True.intro | omega | (intros; (with_reducible and_intros) <;> first | (with_reducible assumption) | omega; done) | (simp; done) | (simp; omega))
    refine AWp.of ?_; simp only [go_sem]
    refine ⟨fun ht => ?_, fun h3 => ?_⟩
    · repeat ((with_reducible refine And.intro ?_ ?_); focus first | exact True.intro | omega | (intros; (with_reducible and_intros) <;> first | (with_reducible assumption) | omega; done) | (simp; done) | (simp; omega))
      refine AWp.of ?_; simp only [go_sem]
      refine ret_eq ?_; simp only [go_sem]
      simp only [procF, List.getElem?_eq_getElem hp]; rw [if_neg (by simp [h1, h2]), if_pos (by omega)]
    · have hl := hs.vars _ hm
      repeat ((with_reducible refine And.intro ?_ ?_); focus first | exact True.intro | omega | (intros; (with_reducible and_intros) <;> first | (with_reducible assumption) | omega; done) | (simp; done) | (simp; omega))
      refine AWp.of ?_; simp only [go_sem]
      refine AWp.range' ps[p].vars.length [] [5, 32, 33] (fun k vs L => L = [] ∧ ∀ i, i < k → varF ps[p].vars i = 0) (by omega) rfl rfl rfl ⟨rfl, by omega⟩ ?_ ?_
      · rintro k vs L' hk hvs ⟨rfl, hI⟩
        simp only [go_sem]
        have e : ps[p].vars[k]? = some ps[p].vars[k] := List.getElem?_eq_getElem hk
        repeat ((with_reducible refine And.intro ?_ ?_); focus first | exact True.intro | omega | (intros; (with_reducible and_intros) <;> first | (with_reducible assumption) | omega; done) | (simp; done) | (simp; omega))
        refine AWp.of ?_; simp only [go_sem, getD_map hk]
        repeat ((with_reducible refine And.intro ?_ ?_); focus first | exact True.intro | omega | (intros; (with_reducible and_intros) <;> first | (with_reducible assumption) | omega; done) | (simp; done) | (simp; omega))
        intros
        refine AWp.of ?_; simp only [go_sem]
        refine (trace_isName _).val.use ?_
        simp only [go_sem]
        repeat ((with_reducible refine And.intro ?_ ?_); focus first | exact True.intro | omega | (intros; (with_reducible and_intros) <;> first | (with_reducible assumption) | omega; done) | (simp; done) | (simp; omega))
        refine GCall.use (ab ((ps[p].vars.take k).any fun w => decide (w.1 = ps[p].vars[k].1))) (fun _ => ⟨(by first | exact True.intro | omega | (intros; (with_reducible and_intros) <;> first | (with_reducible assumption) | omega) | (simp; done) | (simp; omega) | (intros; simp_all; done) | (intros; simp_all; omega)), (vars_containsFunc (ps[p].vars.take k) (take_le hl) (.clo 70 [.rp 2 [aVar ps[p].vars[k]] 0 0]) rfl (fun w => decide (w.1 = ps[p].vars[k].1)) fun y _ => (trace_processFault2 y ps[p].vars[k]).clo).val.use ⟨rfl, rfl⟩⟩) ?_; simp only [go_sem]
        repeat ((with_reducible refine And.intro ?_ ?_); focus first | exact True.intro | omega | (intros; (with_reducible and_intros) <;> first | (with_reducible assumption) | omega; done) | (simp; done) | (simp; omega))
        refine AWp.of ?_; simp only [go_sem]
        refine ⟨fun ht => ?_, fun h4 h5 => ?_⟩
        · repeat ((with_reducible refine And.intro ?_ ?_); focus first | exact True.intro | omega | (intros; (with_reducible and_intros) <;> first | (with_reducible assumption) | omega; done) | (simp; done) | (simp; omega))
          refine AWp.of ?_; simp only [go_sem]
          refine ret_eq ?_; simp only [go_sem]
          have hv : varF ps[p].vars k = 13 := by simp only [varF, e]; rw [if_pos (by simpa using ht)]
          simp only [procF, List.getElem?_eq_getElem hp]; rw [if_neg (by simp [h1, h2]), if_neg (by omega), fstF_hit hk hI (by rw [hv]; decide), hv]; simp
        · refine (trace_in _ _ _).val.use ?_
          simp only [go_sem]
          repeat ((with_reducible refine And.intro ?_ ?_); focus first | exact True.intro | omega | (intros; (with_reducible and_intros) <;> first | (with_reducible assumption) | omega; done) | (simp; done) | (simp; omega))
          refine AWp.of ?_; simp only [go_sem]
          refine ⟨fun ht => ?_, fun h6 => ?_⟩
          · repeat ((with_reducible refine And.intro ?_ ?_); focus first | exact True.intro | omega | (intros; (with_reducible and_intros) <;> first | (with_reducible assumption) | omega; done) | (simp; done) | (simp; omega))
            refine AWp.of ?_; simp only [go_sem]
            refine ret_eq ?_; simp only [go_sem]
            have hv : varF ps[p].vars k = 2 := by simp only [varF, e]; rw [if_neg (by simp [h4, h5]), if_pos (by simp [ht])]
            simp only [procF, List.getElem?_eq_getElem hp]; rw [if_neg (by simp [h1, h2]), if_neg (by omega), fstF_hit hk hI (by rw [hv]; decide), hv]; simp
          · refine ⟨[], List.Sublist.refl _, rfl, fun i hi => ?_⟩
            by_cases e2 : i = k
            · subst e2; simp only [varF, e]; rw [if_neg (by simp [h4, h5]), if_neg (by simp [h6])]
            · exact hI i (by omega)
      · rintro vs L' hvs ⟨rfl, hI⟩
        simp only [go_sem]
        repeat ((with_reducible refine And.intro ?_ ?_); focus first | exact True.intro | omega | (intros; (with_reducible and_intros) <;> first | (with_reducible assumption) | omega; done) | (simp; done) | (simp; omega))
        refine AWp.of ?_; simp only [go_sem]
        repeat ((with_reducible refine And.intro ?_ ?_); focus first | exact True.intro | omega | (intros; (with_reducible and_intros) <;> first | (with_reducible assumption) | omega; done) | (simp; done) | (simp; omega))
        refine AWp.of ?_; simp only [go_sem]
        refine ⟨fun ht => ?_, fun h6 => ?_⟩
        · repeat ((with_reducible refine And.intro ?_ ?_); focus first | exact True.intro | omega | (intros; (with_reducible and_intros) <;> first | (with_reducible assumption) | omega; done) | (simp; done) | (simp; omega))
          refine AWp.of ?_; simp only [go_sem]
          refine ret_eq ?_; simp only [go_sem]
          simp only [procF, List.getElem?_eq_getElem hp]; rw [if_neg (by simp [h1, h2]), if_neg (by omega), if_neg (by rw [fstF_none hI]; simp), if_pos (by omega)]
        · repeat ((with_reducible refine And.intro ?_ ?_); focus first | exact True.intro | omega | (intros; (with_reducible and_intros) <;> first | (with_reducible assumption) | omega; done) | (simp; done) | (simp; omega))
          refine AWp.of ?_; simp only [go_sem]
          repeat ((with_reducible refine And.intro ?_ ?_); focus first | exact True.intro | omega | (intros; (with_reducible and_intros) <;> first | (with_reducible assumption) | omega; done) | (simp; done) | (simp; omega))
          refine AWp.of ?_; simp only [go_sem]
          refine ret_eq ?_; simp only [go_sem]
          simp only [procF, List.getElem?_eq_getElem hp]; rw [if_neg (by simp [h1, h2]), if_neg (by omega), if_neg (by rw [fstF_none hI]; simp), if_neg (by omega)]
end Go.AL
