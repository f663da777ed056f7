/- The package vector: stamps. No condition. -/
import Derived.Test.YtkfkdmefabefkaaWStp2
import Derived.Test.YtkfkdmefabefkaaAlFam
namespace Go.AL
open Go Go.RowKit
set_option maxRecDepth 4000
theorem vector_joined (v w : List Int) (n : Nat) (hn : 0 < n) (hn2 : n ≤ 1000000) (hv : v.length = n) (hw : w.length = n) : MCalls Go.Proofs.Try.prog 52 [aInts v, aInts w] [] fun r L => AppSt 3 1 ((joinV v w).map ai) r L := by
  refine MCalls.enter' 28 [.tmp 4] [] Go.Proofs.Try.func52 rfl rfl rfl rfl rfl (by simp) (AWp.of ?_); simp only [go_sem]
  repeat (first | ((with_reducible refine AWp.ofC ?_ ?_); (focus exact rfl); simp only [go_sem]) | ((with_reducible refine And.intro ?_ ?_); focus first | exact True.intro | omega | (intros; (with_reducible and_intros) <;> first | (with_reducible assumption) | omega; done)))
  refine (ints_cloneO v (by omega)).val.mono ?_
  rintro r L hA
  rcases hA.inv with ⟨e1, rfl, rfl⟩ | ⟨b, cap, rfl, rfl⟩
  · have : v.length = 0 := by simpa using congrArg List.length e1
    omega
  · have hzl : (joinV v w).length = v.length := joinV_length (by omega)
    simp only [go_sem]
    repeat (first | ((with_reducible refine AWp.ofC ?_ ?_); (focus exact rfl); simp only [go_sem]) | ((with_reducible refine And.intro ?_ ?_); focus first | exact True.intro | omega | (intros; (with_reducible and_intros) <;> first | (with_reducible assumption) | omega; done)))
    refine AWp.range' n [] [5, 10, 11] (fun j vs L => L = [(b, .row 3 1 (((joinV v w).take j ++ v.drop j).map ai) cap)]) (by omega) rfl (by simp [get, hw]) rfl (by simp) ?_ ?_
    · rintro j vs L' hj - rfl
      have hjw : j < w.length := by omega
      have hjv : j < v.length := by omega
      have hgd : (List.map ai ((joinV v w).take j ++ v.drop j)).getD j .any = ai v[j] := by
        rw [List.getD_eq_getElem?_getD, List.getElem?_map, upd_get hzl hjv]; rfl
      have hus := upd_set hzl hjv
      have hzj : (joinV v w)[j]'(by omega) = max v[j] w[j] := List.getElem_zipWith
      rw [hzj] at hus
      have hul : ((joinV v w).take j ++ v.drop j).length = n := by rw [List.length_append, List.length_take, List.length_drop]; omega
      rw [← hus]
      generalize (joinV v w).take j ++ v.drop j = cur at *
      simp only [go_sem]
      repeat ((with_reducible refine And.intro ?_ ?_); focus first | exact True.intro | omega | (intros; (with_reducible and_intros) <;> first | (with_reducible assumption) | omega; done) | (simp; done) | (simp; omega))
      refine AWp.of ?_; simp only [go_sem, getD_map hjw]
      repeat (first | ((with_reducible refine AWp.ofC ?_ ?_); (focus exact rfl); simp only [go_sem, hgd]) | ((with_reducible refine And.intro ?_ ?_); focus first | exact True.intro | omega | (intros; (with_reducible and_intros) <;> first | (with_reducible assumption) | omega; done)))
      repeat ((with_reducible refine And.intro ?_ ?_); focus first | exact True.intro | omega | (intros; (with_reducible and_intros) <;> first | (with_reducible assumption) | omega; done) | (simp; done) | (simp; omega))
      have hmx : (if v[j] < w[j] then w[j] else v[j]) = max v[j] w[j] := by split <;> omega
      refine ⟨_, List.Sublist.refl _, ?_⟩
      rw [List.map_set, hmx]
    · rintro vs L' - rfl
      simp only [go_sem]
      repeat (first | ((with_reducible refine AWp.ofC ?_ ?_); (focus exact rfl); simp only [go_sem]) | ((with_reducible refine And.intro ?_ ?_); focus first | exact True.intro | omega | (intros; (with_reducible and_intros) <;> first | (with_reducible assumption) | omega; done)))
      rw [List.take_of_length_le (by omega), List.drop_of_length_le (by omega), List.append_nil]
      refine ret_own ?_
      simp only [go_sem]
      have e : v.length = ((joinV v w).map ai).length := by rw [List.length_map, hzl]
      rw [e]; exact .row _ _ _
end Go.AL
