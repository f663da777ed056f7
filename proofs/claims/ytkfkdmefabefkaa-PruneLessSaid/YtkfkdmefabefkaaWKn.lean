/- The package prune: knowledge. No condition. -/
import Derived.Test.YtkfkdmefabefkaaWVar
namespace Go.AL
open Go Go.RowKit
set_option maxRecDepth 4000
def inB (n : Int) : Bool := decide (0 ≤ n) && decide (n ≤ 64)
def isKn (l : List (List Int)) : Bool := decide (1 ≤ l.length) && decide (l.length ≤ 8) && l.all fun row => decide (row.length = l.length) && row.all inB
def foldF (f : Int → Int → Int) : List (List Int) → List Int
  | [] => []
  | r :: rs => rs.foldl (List.zipWith f) r
theorem prune_counts1 (n : Int) : PC Go.Proofs.Try.prog 50 [ai n] (ab (!inB n)) := by
  refine PC.enter 9 [.tmp 2] [] Go.Proofs.Try.func50 rfl rfl rfl rfl rfl (by simp) (AWp.of ?_); simp only [go_sem]
  repeat (first | ((with_reducible refine AWp.ofC ?_ ?_); (focus exact rfl); simp only [go_sem]) | ((with_reducible refine And.intro ?_ ?_); focus first | exact True.intro | omega | (intros; (with_reducible and_intros) <;> first | (with_reducible assumption) | omega; done)))
  refine ret_eq ?_; simp only [go_sem]
  congr 2; unfold inB
  by_cases h : n < 0
  · simp [h, Int.not_le.2 h]
  · simp [h, Int.not_lt.1 h]
    by_cases h2 : 64 < n
    · simp [h2]
    · simp [h2]; omega
theorem prune_counts (l : List Int) (hl : l.length ≤ 1000000) : PC Go.Proofs.Try.prog 41 [aInts l] (ab (l.all inB)) := by
  refine PC.enter 6 [.tmp 2] [] Go.Proofs.Try.func41 rfl rfl rfl rfl rfl (by simp) (AWp.of ?_); simp only [go_sem]
  repeat (first | ((with_reducible refine AWp.ofC ?_ ?_); (focus exact rfl); simp only [go_sem]) | ((with_reducible refine And.intro ?_ ?_); focus first | exact True.intro | omega | (intros; (with_reducible and_intros) <;> first | (with_reducible assumption) | omega; done)))
  repeat ((with_reducible refine And.intro ?_ ?_); focus first | exact True.intro | omega | (intros; (with_reducible and_intros) <;> first | (with_reducible assumption) | omega; done) | (simp; done) | (simp; omega))
  refine (ints_containsFunc l hl _ rfl (fun n => !inB n) fun n _ => (prune_counts1 n).val).val.use ?_; simp only [go_sem]
  repeat (first | ((with_reducible refine AWp.ofC ?_ ?_); (focus exact rfl); simp only [go_sem]) | ((with_reducible refine And.intro ?_ ?_); focus first | exact True.intro | omega | (intros; (with_reducible and_intros) <;> first | (with_reducible assumption) | omega; done)))
  refine ret_eq ?_; simp only [go_sem]
  congr 2; simp [List.all_eq_not_any_not]
theorem prune_knowledge1 (row : List Int) (l : List (List Int)) (hr : row.length ≤ 1000000) : PC Go.Proofs.Try.prog 40 [aInts row, .rp 1 [aRows l] 0 0] (ab (!decide (row.length = l.length) || !row.all inB)) := by
  refine PC.enter 14 [.tmp 3] [] Go.Proofs.Try.func40 rfl rfl rfl rfl rfl (by simp) (AWp.of ?_); simp only [go_sem]
  repeat (first | ((with_reducible refine AWp.ofC ?_ ?_); (focus exact rfl); simp only [go_sem]) | ((with_reducible refine And.intro ?_ ?_); focus first | exact True.intro | omega | (intros; (with_reducible and_intros) <;> first | (with_reducible assumption) | omega; done)))
  repeat ((with_reducible refine And.intro ?_ ?_); focus first | exact True.intro | omega | (intros; (with_reducible and_intros) <;> first | (with_reducible assumption) | omega; done) | (simp; done) | (simp; omega))
  refine GCall.use (ab (row.all inB)) (fun _ => ⟨(by first | exact True.intro | omega | (intros; (with_reducible and_intros) <;> first | (with_reducible assumption) | omega) | (simp; done) | (simp; omega) | (intros; simp_all; done) | (intros; simp_all; omega)), (prune_counts row hr).val.use ⟨rfl, rfl⟩⟩) ?_; simp only [go_sem]
  repeat (first | ((with_reducible refine AWp.ofC ?_ ?_); (focus exact rfl); simp only [go_sem]) | ((with_reducible refine And.intro ?_ ?_); focus first | exact True.intro | omega | (intros; (with_reducible and_intros) <;> first | (with_reducible assumption) | omega; done)))
  refine ret_eq ?_; simp only [go_sem]
  congr 2
  by_cases h : row.length = l.length <;> simp [h, Int.natCast_inj]
theorem prune_knowledge (l : List (List Int)) (hl : l.length ≤ 1000000) (hr : ∀ row ∈ l, row.length ≤ 1000000) : PC Go.Proofs.Try.prog 23 [aRows l] (ab (isKn l)) := by
  refine PC.enter 15 [.tmp 2] [1] Go.Proofs.Try.func23 rfl rfl rfl rfl rfl (by simp) (AWp.of ?_); simp only [go_sem]
  repeat (first | ((with_reducible refine AWp.ofC ?_ ?_); (focus exact rfl); simp only [go_sem]) | ((with_reducible refine And.intro ?_ ?_); focus first | exact True.intro | omega | (intros; (with_reducible and_intros) <;> first | (with_reducible assumption) | omega; done)))
  refine ⟨fun ht => ?_, fun h1 h2 => ?_⟩
  · repeat (first | ((with_reducible refine AWp.ofC ?_ ?_); (focus exact rfl); simp only [go_sem]) | ((with_reducible refine And.intro ?_ ?_); focus first | exact True.intro | omega | (intros; (with_reducible and_intros) <;> first | (with_reducible assumption) | omega; done)))
    refine ret_eq ?_; simp only [go_sem]
    congr 2; unfold isKn
    rcases ht with h | h
    · simp [show ¬ 1 ≤ l.length by omega]
    · simp [show ¬ l.length ≤ 8 by omega]
  · repeat (first | ((with_reducible refine AWp.ofC ?_ ?_); (focus exact rfl); simp only [go_sem]) | ((with_reducible refine And.intro ?_ ?_); focus first | exact True.intro | omega | (intros; (with_reducible and_intros) <;> first | (with_reducible assumption) | omega; done)))
    repeat ((with_reducible refine And.intro ?_ ?_); focus first | exact True.intro | omega | (intros; (with_reducible and_intros) <;> first | (with_reducible assumption) | omega; done) | (simp; done) | (simp; omega))
    refine (rows_containsFunc l hl (.clo 40 [.rp 1 [aRows l] 0 0]) rfl (fun row => !decide (row.length = l.length) || !row.all inB) fun row hrow => (prune_knowledge1 row l (hr row hrow)).clo).val.use ?_; simp only [go_sem]
    repeat (first | ((with_reducible refine AWp.ofC ?_ ?_); (focus exact rfl); simp only [go_sem]) | ((with_reducible refine And.intro ?_ ?_); focus first | exact True.intro | omega | (intros; (with_reducible and_intros) <;> first | (with_reducible assumption) | omega; done)))
    refine ret_eq ?_; simp only [go_sem]
    congr 2; unfold isKn
    simp [show 1 ≤ l.length by omega, show l.length ≤ 8 by omega, List.all_eq_not_any_not, Bool.not_and]
theorem prune_least (a b : Int) : PC Go.Proofs.Try.prog 25 [ai a, ai b] (ai (min a b)) := by
  refine PC.enter 8 [.tmp 4] [] Go.Proofs.Try.func25 rfl rfl rfl rfl rfl (by simp) (AWp.of ?_); simp only [go_sem]
  repeat (first | ((with_reducible refine AWp.ofC ?_ ?_); (focus exact rfl); simp only [go_sem]) | ((with_reducible refine And.intro ?_ ?_); focus first | exact True.intro | omega | (intros; (with_reducible and_intros) <;> first | (with_reducible assumption) | omega; done)))
  refine ret_eq ?_; simp only [go_sem]
  congr 1; congr 1; omega
theorem prune_greatest (a b : Int) : PC Go.Proofs.Try.prog 42 [ai a, ai b] (ai (max a b)) := by
  refine PC.enter 8 [.tmp 4] [] Go.Proofs.Try.func42 rfl rfl rfl rfl rfl (by simp) (AWp.of ?_); simp only [go_sem]
  repeat (first | ((with_reducible refine AWp.ofC ?_ ?_); (focus exact rfl); simp only [go_sem]) | ((with_reducible refine And.intro ?_ ?_); focus first | exact True.intro | omega | (intros; (with_reducible and_intros) <;> first | (with_reducible assumption) | omega; done)))
  refine ret_eq ?_; simp only [go_sem]
  congr 1; congr 1; omega
theorem upd_get {Z out : List Int} {j : Nat} (h : Z.length = out.length) (hj : j < out.length) : (Z.take j ++ out.drop j)[j]? = some out[j] := by
  rw [List.getElem?_append_right (by simp; omega), List.length_take, List.getElem?_drop, show j + (j - min j Z.length) = j by omega, List.getElem?_eq_getElem hj]
theorem upd_set {Z out : List Int} {j : Nat} (h : Z.length = out.length) (hj : j < out.length) : (Z.take j ++ out.drop j).set j (Z[j]'(by omega)) = Z.take (j + 1) ++ out.drop (j + 1) := by
  apply List.ext_getElem?
  intro i
  have hz : j < Z.length := by omega
  rw [List.getElem?_set]
  simp only [List.getElem?_append, List.length_take, List.getElem?_take, List.getElem?_drop, List.length_append, List.length_drop]
  by_cases hij : j = i
  · subst hij
    rw [if_pos rfl, if_pos (by omega), if_pos (by omega), if_pos (by omega), List.getElem?_eq_getElem hz]
  · rw [if_neg hij]
    by_cases hlt : i < j
    · rw [if_pos (by omega), if_pos hlt, if_pos (by omega), if_pos (by omega)]
    · rw [if_neg (by omega), if_neg (by omega)]
      congr 1; omega
theorem foldF_take (f : Int → Int → Int) (l : List (List Int)) (k : Nat) (hk : k < l.length) (a : List Int) : (l.take (k + 1)).foldl (List.zipWith f) a = List.zipWith f ((l.take k).foldl (List.zipWith f) a) l[k] := by
  rw [List.take_succ_eq_append_getElem hk, List.foldl_append]; rfl
theorem foldl_len (f : Int → Int → Int) (n : Nat) (l : List (List Int)) (h : ∀ r ∈ l, r.length = n) (a : List Int) (ha : a.length = n) : (l.foldl (List.zipWith f) a).length = n := by
  induction l generalizing a with
  | nil => exact ha
  | cons r l ih => exact ih (fun r hr => h r (List.mem_cons_of_mem _ hr)) _ (by rw [List.length_zipWith, ha, h r (by simp)]; simp)
theorem prune_fold (r0 : List Int) (rs : List (List Int)) (n : Nat) (hn : 0 < n) (hn2 : n ≤ 1000000) (hl : rs.length ≤ 1000000) (h0 : r0.length = n) (hr : ∀ r ∈ rs, r.length = n) (f : Int → Int → Int) (g : AV) (hgf : fo g = (True, g))
    (hg : ∀ a b, PV Go.Proofs.Try.prog g [ai a, ai b] (ai (f a b))) : PC Go.Proofs.Try.prog 24 [aRows (r0 :: rs), g] (aInts (foldF f (r0 :: rs))) := by
  refine PC.enter 41 [.tmp 4] [] Go.Proofs.Try.func24 rfl rfl rfl rfl rfl (by simp) (AWp.of ?_); simp only [go_sem]
  repeat (first | ((with_reducible refine AWp.ofC ?_ ?_); (focus exact rfl); simp only [go_sem]) | ((with_reducible refine And.intro ?_ ?_); focus first | exact True.intro | omega | (intros; (with_reducible and_intros) <;> first | (with_reducible assumption) | omega; done)))
  refine (ints_cloneO r0 (by omega)).val.mono ?_
  rintro r L hA
  rcases hA.inv with ⟨e1, rfl, rfl⟩ | ⟨b, cap, rfl, rfl⟩
  · have : r0.length = 0 := by simpa using congrArg List.length e1
    omega
  · have hz : ∀ k, (((rs.take k).foldl (List.zipWith f) r0)).length = n := fun k => foldl_len f n _ (fun r hr' => hr r (List.mem_of_mem_take hr')) r0 h0
    simp only [go_sem, h0]
    repeat ((with_reducible refine And.intro ?_ ?_); focus first | exact True.intro | omega | (intros; (with_reducible and_intros) <;> first | (with_reducible assumption) | omega; done) | (simp; done) | (simp; omega))
    refine AWp.of ?_; simp only [go_sem]
    repeat ((with_reducible refine And.intro ?_ ?_); focus first | exact True.intro | omega | (intros; (with_reducible and_intros) <;> first | (with_reducible assumption) | omega; done) | (simp; done) | (simp; omega))
    refine AWp.range' rs.length [] [1, 5, 15, 16] (fun k vs L => L = [(b, .row 3 1 (((rs.take k).foldl (List.zipWith f) r0).map ai) cap)]) (by omega) rfl rfl rfl rfl ?_ ?_
    · rintro k vs L' hk - rfl
      have hrk := hr _ (List.getElem_mem hk)
      have hck := hz k
      have hsu := foldF_take f rs k hk r0
      generalize (rs.take k).foldl (List.zipWith f) r0 = out at *
      have hzl : (List.zipWith f out rs[k]).length = out.length := by rw [List.length_zipWith]; omega
      simp only [go_sem]
      repeat ((with_reducible refine And.intro ?_ ?_); focus first | exact True.intro | omega | (intros; (with_reducible and_intros) <;> first | (with_reducible assumption) | omega; done) | (simp; done) | (simp; omega))
      refine AWp.of ?_; simp only [go_sem, getD_map hk]
      repeat (first | ((with_reducible refine AWp.ofC ?_ ?_); (focus exact rfl); simp only [go_sem, getD_map hk, hrk]) | ((with_reducible refine And.intro ?_ ?_); focus first | exact True.intro | omega | (intros; (with_reducible and_intros) <;> first | (with_reducible assumption) | omega; done)))
      refine AWp.range' n [] [1, 5, 15, 16, 17, 21, 22] (fun j vs L => L = [(b, .row 3 1 (((List.zipWith f out rs[k]).take j ++ out.drop j).map ai) cap)]) (by omega) rfl rfl rfl (by simp) ?_ ?_
      · rintro j vs L' hj - rfl
        have hjr : j < rs[k].length := by omega
        have hjo : j < out.length := by omega
        have hgd : (List.map ai ((List.zipWith f out rs[k]).take j ++ out.drop j)).getD j .any = ai out[j] := by
          rw [List.getD_eq_getElem?_getD, List.getElem?_map, upd_get hzl hjo]; rfl
        have hus := upd_set hzl hjo
        have hzj : (List.zipWith f out rs[k])[j]'(by omega) = f out[j] rs[k][j] := List.getElem_zipWith
        rw [hzj] at hus
        have hul : ((List.zipWith f out rs[k]).take j ++ out.drop j).length = n := by rw [List.length_append, List.length_take, List.length_drop]; omega
        rw [← hus]
        generalize (List.zipWith f out rs[k]).take j ++ out.drop j = cur at *
        simp only [go_sem]
        repeat ((with_reducible refine And.intro ?_ ?_); focus first | exact True.intro | omega | (intros; (with_reducible and_intros) <;> first | (with_reducible assumption) | omega; done) | (simp; done) | (simp; omega))
        refine AWp.of ?_; simp only [go_sem, getD_map hjr]
        repeat (first | ((with_reducible refine AWp.ofC ?_ ?_); (focus exact rfl); simp only [go_sem, hgf, hgd]) | ((with_reducible refine And.intro ?_ ?_); focus first | exact True.intro | omega | (intros; (with_reducible and_intros) <;> first | (with_reducible assumption) | omega; done)))
        repeat ((with_reducible refine And.intro ?_ ?_); focus first | exact True.intro | omega | (intros; (with_reducible and_intros) <;> first | (with_reducible assumption) | omega; done) | (simp; done) | (simp; omega))
        refine (hg _ _).use ?_; simp only [go_sem, hgd]
        repeat ((with_reducible refine And.intro ?_ ?_); focus first | exact True.intro | omega | (intros; (with_reducible and_intros) <;> first | (with_reducible assumption) | omega; done) | (simp; done) | (simp; omega))
        refine ⟨_, List.Sublist.refl _, ?_⟩
        rw [List.map_set]
      · rintro vs L' - rfl
        simp only [go_sem]
        refine ⟨_, List.Sublist.refl _, ?_⟩
        rw [hsu, List.take_of_length_le (by omega), List.drop_of_length_le (by omega), List.append_nil]
    · rintro vs L' - rfl
      simp only [go_sem]
      repeat (first | ((with_reducible refine AWp.ofC ?_ ?_); (focus exact rfl); simp only [go_sem]) | ((with_reducible refine And.intro ?_ ?_); focus first | exact True.intro | omega | (intros; (with_reducible and_intros) <;> first | (with_reducible assumption) | omega; done)))
      refine ret_view [true] ?_; simp only [go_sem]
      have hzz := hz rs.length
      rw [List.take_length] at hzz
      exact Vw.ofLs (if_pos rfl) (by rw [List.length_map]; exact hzz.symm)
theorem isKn_inv {l : List (List Int)} (h : isKn l = true) : 1 ≤ l.length ∧ l.length ≤ 8 ∧ ∀ row ∈ l, row.length = l.length ∧ ∀ n ∈ row, 0 ≤ n ∧ n ≤ 64 := by
  unfold isKn at h
  simp only [Bool.and_eq_true, decide_eq_true_eq, List.all_eq_true, inB] at h
  exact ⟨h.1.1, h.1.2, fun row hr => ⟨(h.2 row hr).1, fun n hn => (h.2 row hr).2 n hn⟩⟩
theorem fold_sq (l : List (List Int)) (h1 : 1 ≤ l.length) (h2 : l.length ≤ 1000000) (hr : ∀ row ∈ l, row.length = l.length) (f : Int → Int → Int) (g : AV) (hgf : fo g = (True, g)) (hg : ∀ a b, PV Go.Proofs.Try.prog g [ai a, ai b] (ai (f a b))) :
    PC Go.Proofs.Try.prog 24 [aRows l, g] (aInts (foldF f l)) := by
  cases l with
  | nil => simp at h1
  | cons r0 rs => exact prune_fold r0 rs (r0 :: rs).length (by simp) h2 (by simp at h2; omega) (hr r0 (by simp)) (fun r hr' => hr r (List.mem_cons_of_mem _ hr')) f g hgf hg
def aStable (l : List (List Int)) : AV := if isKn l then .tup [aInts (foldF min l), ai 0] else .tup [.sl 1 [], ai 1]
theorem prune_Stable (l : List (List Int)) (hl : l.length ≤ 1000000) (hr : ∀ row ∈ l, row.length ≤ 1000000) : PC Go.Proofs.Try.prog 8 [aRows l] (aStable l) := by
  refine PC.enter 9 [.tmp 2, .tmp 3] [] Go.Proofs.Try.func8 rfl rfl rfl rfl rfl (by simp) (AWp.of ?_); simp only [go_sem]
  repeat (first | ((with_reducible refine AWp.ofC ?_ ?_); (focus exact rfl); simp only [go_sem]) | ((with_reducible refine And.intro ?_ ?_); focus first | exact True.intro | omega | (intros; (with_reducible and_intros) <;> first | (with_reducible assumption) | omega; done)))
  repeat ((with_reducible refine And.intro ?_ ?_); focus first | exact True.intro | omega | (intros; (with_reducible and_intros) <;> first | (with_reducible assumption) | omega; done) | (simp; done) | (simp; omega))
  refine (prune_knowledge l hl hr).val.use ?_; simp only [go_sem]
  repeat (first | ((with_reducible refine AWp.ofC ?_ ?_); (focus exact rfl); simp only [go_sem]) | ((with_reducible refine And.intro ?_ ?_); focus first | exact True.intro | omega | (intros; (with_reducible and_intros) <;> first | (with_reducible assumption) | omega; done)))
  refine ⟨fun h1 => ?_, fun h1 => ?_⟩
  · repeat (first | ((with_reducible refine AWp.ofC ?_ ?_); (focus exact rfl); simp only [go_sem]) | ((with_reducible refine And.intro ?_ ?_); focus first | exact True.intro | omega | (intros; (with_reducible and_intros) <;> first | (with_reducible assumption) | omega; done)))
    have e : aStable l = .tup [.sl 1 [], ai 1] := by unfold aStable; rw [h1]; rfl
    rw [e]
    refine ret_view [] ?_; simp only [go_sem]
    exact .mkTup (Vws.cons (.nil 1) (Vws.refl _))
  · have e : aStable l = .tup [aInts (foldF min l), ai 0] := by unfold aStable; rw [h1]; rfl
    obtain ⟨k1, k2, k3⟩ := isKn_inv h1
    repeat (first | ((with_reducible refine AWp.ofC ?_ ?_); (focus exact rfl); simp only [go_sem]) | ((with_reducible refine And.intro ?_ ?_); focus first | exact True.intro | omega | (intros; (with_reducible and_intros) <;> first | (with_reducible assumption) | omega; done)))
    repeat ((with_reducible refine And.intro ?_ ?_); focus first | exact True.intro | omega | (intros; (with_reducible and_intros) <;> first | (with_reducible assumption) | omega; done) | (simp; done) | (simp; omega))
    refine (fold_sq l k1 hl (fun r hr => (k3 r hr).1) min _ rfl (fun a b => (prune_least a b).val)).val.use ?_; simp only [go_sem]
    repeat (first | ((with_reducible refine AWp.ofC ?_ ?_); (focus exact rfl); simp only [go_sem]) | ((with_reducible refine And.intro ?_ ?_); focus first | exact True.intro | omega | (intros; (with_reducible and_intros) <;> first | (with_reducible assumption) | omega; done)))
    rw [e]
    refine ret_eq ?_; simp only [go_sem]
end Go.AL
