/- Texts of this claim's proof: WLsf, WCx, AlCutf, AlRed, WCf, WSame, WDrop, WDv, WRf8, WPd, WPf, WPc, WDl, WPb, WPt, WPe, WVe, WPg, WPh, WRf9, WPj, WPi, WVt, WVb, WJn, WPw, WPw2, WTl, WEf, WEl, WBd, WCl, WRe, WLo, WLp, WLq, WNd, WBs, WSb, WAw, WSr, WOf, WWl. No condition. -/
import Derived.Test.YtmnabhohlflkkaaGreatM7
import Derived.Test.YtmnabhohlflkkaaGreatProg
import Derived.Shelf.SlGeneric
import Derived.Test.YtmnabhohlflkkaaGreatM6
import Derived.Test.YtmnabhohlflkkaaGreatM5
import Derived.Test.YtmnabhohlflkkaaGreatM4
section
/- The laying of the library's sort by a comparison at rows of integers: the library's bodies are this program's. Printed by program (tools/lays.py). No condition. -/
namespace Go.AL
open Go Go.RowKit Go.Lib Go.Sort Go.Proofs Go.Shelf
def sortRows_ren : Go.Shelf.Ren := ⟨fun | 6 => 125 | 15 => 147 | 14 => 146 | 28 => 164 | 29 => 165 | 20 => 156 | 21 => 157 | 22 => 158 | 23 => 159 | 24 => 160 | 25 => 161 | 26 => 162 | 27 => 163 | 46 => 167 | 47 => 168 | 48 => 169 | 49 => 170 | 50 => 171 | 57 => 172 | n => n, fun | 22 => 31 | 24 => 42 | 25 => 108 | 3 => 3 | 39 => 184 | 0 => 0 | 53 => 199 | 55 => 201 | 4 => 4 | 46 => 192 | 45 => 191 | 50 => 196 | 5 => 5 | 9 => 9 | 66 => 202 | 70 => 206 | 76 => 208 | 77 => 34 | n => n, fun | n => n⟩
theorem sortRows : Go.Proofs.SlLaysF.n6 Go.Proofs.Tryz.prog sortRows_ren where
  mixed := by kernel_rfl
  f6 := ⟨"slices.SortFunc[[][]int,[]int]", by decide, Go.Proofs.Tryz.func125.trans (congrArg some (by kernel_rfl))⟩
  f14 := ⟨"slices.pdqsortCmpFunc[[]int]", by decide, Go.Proofs.Tryz.func146.trans (congrArg some (by kernel_rfl))⟩
  f15 := Go.Proofs.Tryz.func147.trans (congrArg some (by kernel_rfl))
  f20 := ⟨"slices.insertionSortCmpFunc[[]int]", by decide, Go.Proofs.Tryz.func156.trans (congrArg some (by kernel_rfl))⟩
  f21 := ⟨"slices.heapSortCmpFunc[[]int]", by decide, Go.Proofs.Tryz.func157.trans (congrArg some (by kernel_rfl))⟩
  f22 := ⟨"slices.breakPatternsCmpFunc[[]int]", by decide, Go.Proofs.Tryz.func158.trans (congrArg some (by kernel_rfl))⟩
  f23 := ⟨"slices.choosePivotCmpFunc[[]int]", by decide, Go.Proofs.Tryz.func159.trans (congrArg some (by kernel_rfl))⟩
  f24 := ⟨"slices.reverseRangeCmpFunc[[]int]", by decide, Go.Proofs.Tryz.func160.trans (congrArg some (by kernel_rfl))⟩
  f25 := ⟨"slices.partialInsertionSortCmpFunc[[]int]", by decide, Go.Proofs.Tryz.func161.trans (congrArg some (by kernel_rfl))⟩
  f26 := ⟨"slices.partitionEqualCmpFunc[[]int]", by decide, Go.Proofs.Tryz.func162.trans (congrArg some (by kernel_rfl))⟩
  f27 := ⟨"slices.partitionCmpFunc[[]int]", by decide, Go.Proofs.Tryz.func163.trans (congrArg some (by kernel_rfl))⟩
  f28 := Go.Proofs.Tryz.func164.trans (congrArg some (by kernel_rfl))
  f29 := Go.Proofs.Tryz.func165.trans (congrArg some (by kernel_rfl))
  f46 := ⟨"slices.siftDownCmpFunc[[]int]", by decide, Go.Proofs.Tryz.func167.trans (congrArg some (by kernel_rfl))⟩
  f47 := Go.Proofs.Tryz.func168.trans (congrArg some (by kernel_rfl))
  f48 := Go.Proofs.Tryz.func169.trans (congrArg some (by kernel_rfl))
  f49 := ⟨"slices.medianAdjacentCmpFunc[[]int]", by decide, Go.Proofs.Tryz.func170.trans (congrArg some (by kernel_rfl))⟩
  f50 := ⟨"slices.medianCmpFunc[[]int]", by decide, Go.Proofs.Tryz.func171.trans (congrArg some (by kernel_rfl))⟩
  f57 := ⟨"slices.order2CmpFunc[[]int]", by decide, Go.Proofs.Tryz.func172.trans (congrArg some (by kernel_rfl))⟩
  t0 := Go.Proofs.Tryz.underlying0
  a0 := Go.Proofs.Tryz.isAgg0
  z0 := Go.Proofs.Tryz.sizeOf0
  v0 := Go.Proofs.Tryz.zeroValue0
  t3 := Go.Proofs.Tryz.underlying3
  a3 := Go.Proofs.Tryz.isAgg3
  z3 := Go.Proofs.Tryz.sizeOf3
  v3 := Go.Proofs.Tryz.zeroValue3
  t4 := Go.Proofs.Tryz.underlying4
  a4 := Go.Proofs.Tryz.isAgg4
  z4 := Go.Proofs.Tryz.sizeOf4
  v4 := Go.Proofs.Tryz.zeroValue4
  t5 := Go.Proofs.Tryz.underlying5
  a5 := Go.Proofs.Tryz.isAgg5
  z5 := Go.Proofs.Tryz.sizeOf5
  v5 := Go.Proofs.Tryz.zeroValue5
  t9 := Go.Proofs.Tryz.underlying9
  a9 := Go.Proofs.Tryz.isAgg9
  z9 := Go.Proofs.Tryz.sizeOf9
  v9 := Go.Proofs.Tryz.zeroValue9
  t22 := Go.Proofs.Tryz.underlying31
  a22 := Go.Proofs.Tryz.isAgg31
  z22 := Go.Proofs.Tryz.sizeOf31
  v22 := Go.Proofs.Tryz.zeroValue31
  a24 := Go.Proofs.Tryz.isAgg42
  z24 := Go.Proofs.Tryz.sizeOf42
  t25 := Go.Proofs.Tryz.underlying108
  a25 := Go.Proofs.Tryz.isAgg108
  z25 := Go.Proofs.Tryz.sizeOf108
  v25 := Go.Proofs.Tryz.zeroValue108
  t39 := Go.Proofs.Tryz.underlying184
  a39 := Go.Proofs.Tryz.isAgg184
  z39 := Go.Proofs.Tryz.sizeOf184
  v39 := Go.Proofs.Tryz.zeroValue184
  t45 := Go.Proofs.Tryz.underlying191
  a45 := Go.Proofs.Tryz.isAgg191
  z45 := Go.Proofs.Tryz.sizeOf191
  v45 := Go.Proofs.Tryz.zeroValue191
  t46 := Go.Proofs.Tryz.underlying192
  a46 := Go.Proofs.Tryz.isAgg192
  z46 := Go.Proofs.Tryz.sizeOf192
  v46 := Go.Proofs.Tryz.zeroValue192
  t50 := Go.Proofs.Tryz.underlying196
  a50 := Go.Proofs.Tryz.isAgg196
  z50 := Go.Proofs.Tryz.sizeOf196
  v50 := Go.Proofs.Tryz.zeroValue196
  t53 := Go.Proofs.Tryz.underlying199
  a53 := Go.Proofs.Tryz.isAgg199
  z53 := Go.Proofs.Tryz.sizeOf199
  v53 := Go.Proofs.Tryz.zeroValue199
  t55 := Go.Proofs.Tryz.underlying201
  a55 := Go.Proofs.Tryz.isAgg201
  z55 := Go.Proofs.Tryz.sizeOf201
  v55 := Go.Proofs.Tryz.zeroValue201
  t66 := Go.Proofs.Tryz.underlying202
  a66 := Go.Proofs.Tryz.isAgg202
  z66 := Go.Proofs.Tryz.sizeOf202
  v66 := Go.Proofs.Tryz.zeroValue202
  t70 := Go.Proofs.Tryz.underlying206
  a70 := Go.Proofs.Tryz.isAgg206
  z70 := Go.Proofs.Tryz.sizeOf206
  v70 := Go.Proofs.Tryz.zeroValue206
  t76 := Go.Proofs.Tryz.underlying208
  a76 := Go.Proofs.Tryz.isAgg208
  z76 := Go.Proofs.Tryz.sizeOf208
  v76 := Go.Proofs.Tryz.zeroValue208
  t77 := Go.Proofs.Tryz.underlying34
  a77 := Go.Proofs.Tryz.isAgg34
  z77 := Go.Proofs.Tryz.sizeOf34
  v77 := Go.Proofs.Tryz.zeroValue34

end Go.AL
end
section
/- Rows of counts put in order: comparing two, the library's sort of many. No condition. -/
namespace Go.AL
open Go Go.RowKit Go.Sort Go.Proofs
set_option maxRecDepth 4000
/-- The order of rows: by the first place where they part, a beginning before its longer one. -/
def cmpL : List Int → List Int → Int
  | [], [] => 0
  | [], _ :: _ => -1
  | _ :: _, [] => 1
  | x :: xs, y :: ys => if x < y then -1 else if y < x then 1 else cmpL xs ys
theorem cmpL_cons (x y : Int) (xs ys : List Int) : cmpL (x :: xs) (y :: ys) = if x < y then -1 else if y < x then 1 else cmpL xs ys := by rw [cmpL]
theorem cmpL_irr : ∀ a, cmpL a a = 0
  | [] => rfl
  | x :: xs => by unfold cmpL; rw [if_neg (by omega), if_neg (by omega)]; exact cmpL_irr xs
theorem cmpL_anti : ∀ a b, ¬ cmpL a b < 0 → ¬ cmpL b a < 0 → a = b
  | [], [], _, _ => rfl
  | [], _ :: _, h, _ => absurd (show cmpL [] _ < 0 from (by unfold cmpL; omega)) h
  | _ :: _, [], _, h => absurd (show cmpL [] _ < 0 from (by unfold cmpL; omega)) h
  | x :: xs, y :: ys, h1, h2 => by
    unfold cmpL at h1 h2
    by_cases c1 : x < y
    · rw [if_pos c1] at h1; omega
    · by_cases c2 : y < x
      · rw [if_pos c2] at h2; omega
      · rw [if_neg c1, if_neg c2] at h1; rw [if_neg c2, if_neg c1] at h2
        rw [cmpL_anti xs ys h1 h2, show x = y by omega]
theorem cmpL_trans : ∀ a b c, cmpL a b < 0 → cmpL b c < 0 → cmpL a c < 0
  | [], _, [], h1, h2 => by
    cases ‹List Int› with
    | nil => unfold cmpL at h1; omega
    | cons => unfold cmpL at h2; omega
  | [], _, _ :: _, _, _ => by unfold cmpL; omega
  | _ :: _, [], _, h, _ => by unfold cmpL at h; omega
  | _ :: _, _ :: _, [], _, h => by unfold cmpL at h; omega
  | x :: xs, y :: ys, z :: zs, h1, h2 => by
    unfold cmpL at h1 h2 ⊢
    by_cases c1 : x < y
    · by_cases c2 : y < z
      · rw [if_pos (by omega)]; omega
      · rw [if_neg c2] at h2
        by_cases c3 : z < y
        · rw [if_pos c3] at h2; omega
        · rw [if_pos (by omega)]; omega
    · rw [if_neg c1] at h1
      by_cases c4 : y < x
      · rw [if_pos c4] at h1; omega
      · rw [if_neg c4] at h1
        by_cases c2 : y < z
        · rw [if_pos (by omega)]; omega
        · rw [if_neg c2] at h2
          by_cases c3 : z < y
          · rw [if_pos c3] at h2; omega
          · rw [if_neg c3] at h2
            rw [if_neg (by omega), if_neg (by omega)]
            exact cmpL_trans xs ys zs h1 h2
theorem cmpL_ntrans (a b c : List Int) (h1 : ¬ cmpL a b < 0) (h2 : ¬ cmpL b c < 0) : ¬ cmpL a c < 0 := fun h => by
  by_cases e : cmpL b a < 0
  · exact h2 (cmpL_trans b a c e h)
  · rw [cmpL_anti a b h1 e] at h; exact h2 h
theorem swoL : SWO (ltOf cmpL) where
  irrefl x := by simp [ltOf, cmpL_irr]
  trans x y z h1 h2 := by simp only [ltOf, decide_eq_true_eq] at *; exact cmpL_trans x y z h1 h2
  ntrans x y z h1 h2 := by simp only [ltOf, decide_eq_false_iff_not] at *; exact cmpL_ntrans x y z h1 h2
theorem cmpL_drop : ∀ (k : Nat) (a b : List Int), k ≤ a.length → k ≤ b.length → (∀ (i : Nat) (h : i < a.length) (h' : i < b.length), i < k → a[i] = b[i]) → cmpL a b = cmpL (a.drop k) (b.drop k)
  | 0, _, _, _, _, _ => rfl
  | k + 1, [], _, h, _, _ => by simp at h
  | k + 1, _ :: _, [], _, h, _ => by simp at h
  | k + 1, x :: a, y :: b, h1, h2, h3 => by
    have e : x = y := h3 0 (by simp) (by simp) (by omega)
    subst e
    rw [List.drop_succ_cons, List.drop_succ_cons, ← cmpL_drop k a b (by simpa using h1) (by simpa using h2) fun i h h' hi => h3 (i + 1) (by simpa using h) (by simpa using h') (by omega)]
    conv => lhs; unfold cmpL
    rw [if_neg (by omega), if_neg (by omega)]
theorem nan_int (x : Int) : PC Go.Proofs.Tryz.prog 166 [ai x] (ab false) := by
  refine PC.enter 6 [.tmp 2] [] Go.Proofs.Tryz.func166 rfl rfl rfl rfl rfl (by simp) (AWp.of ?_); simp only [go_sem]
  repeat (first | ((with_reducible refine AWp.ofC ?_ ?_); (focus exact rfl); simp only [go_sem]) | ((with_reducible refine an ?_ ?_); focus exact Au))
  refine ret_eq ?_; simp only [go_sem]
def cmpI (x y : Int) : Int := if x < y then -1 else if y < x then 1 else 0
theorem cmp_int (x y : Int) : PC Go.Proofs.Tryz.prog 148 [ai x, ai y] (ai (cmpI x y)) := by
  refine PC.enter 20 [.tmp 4] [] Go.Proofs.Tryz.func148 rfl rfl rfl rfl rfl (by simp) (AWp.of ?_); simp only [go_sem]
  repeat (first | ((with_reducible refine AWp.ofC ?_ ?_); (focus exact rfl); simp only [go_sem]) | ((with_reducible refine an ?_ ?_); focus exact Au))
  repeat ((with_reducible refine an ?_ ?_); focus exact As)
  refine (nan_int x).val.use ?_; simp only [go_sem]
  repeat (first | ((with_reducible refine AWp.ofC ?_ ?_); (focus exact rfl); simp only [go_sem]) | ((with_reducible refine an ?_ ?_); focus exact Au))
  repeat ((with_reducible refine an ?_ ?_); focus exact As)
  refine (nan_int y).val.use ?_; simp only [go_sem]
  repeat (first | ((with_reducible refine AWp.ofC ?_ ?_); (focus exact rfl); simp only [go_sem]) | ((with_reducible refine an ?_ ?_); focus exact Au))
  repeat (first | ((with_reducible refine AWp.ofC ?_ ?_); (focus exact rfl); simp only [go_sem]) | ((with_reducible refine an ?_ ?_); focus exact Au))
  refine ⟨fun h => ?_, fun h => ?_⟩
  · repeat (first | ((with_reducible refine AWp.ofC ?_ ?_); (focus exact rfl); simp only [go_sem]) | ((with_reducible refine an ?_ ?_); focus exact Au))
    refine ret_eq ?_; simp only [go_sem]
    unfold cmpI; rw [if_pos h]
  · repeat (first | ((with_reducible refine AWp.ofC ?_ ?_); (focus exact rfl); simp only [go_sem]) | ((with_reducible refine an ?_ ?_); focus exact Au))
    refine ⟨fun h2 => ?_, fun h2 => ?_⟩
    · repeat (first | ((with_reducible refine AWp.ofC ?_ ?_); (focus exact rfl); simp only [go_sem]) | ((with_reducible refine an ?_ ?_); focus exact Au))
      refine ret_eq ?_; simp only [go_sem]
      unfold cmpI; rw [if_neg h, if_pos (by omega)]
    · repeat (first | ((with_reducible refine AWp.ofC ?_ ?_); (focus exact rfl); simp only [go_sem]) | ((with_reducible refine an ?_ ?_); focus exact Au))
      refine ret_eq ?_; simp only [go_sem]
      unfold cmpI; rw [if_neg h, if_neg (by omega)]
theorem ints_compare (a b : List Int) (ha : a.length ≤ 1000000) : PC Go.Proofs.Tryz.prog 127 [aInts a, aInts b] (ai (cmpL a b)) := by
  refine PC.enter 36 [.tmp 4] [] Go.Proofs.Tryz.func127 rfl rfl rfl rfl rfl (by simp) (AWp.of ?_); simp only [go_sem]
  repeat (first | ((with_reducible refine AWp.ofC ?_ ?_); (focus exact rfl); simp only [go_sem]) | ((with_reducible refine an ?_ ?_); focus exact Au))
  refine AWp.range' a.length [] [0, 1, 9, 10] (fun k vs L => L = [] ∧ k ≤ b.length ∧ ∀ (i : Nat) (hi : i < a.length) (h' : i < b.length), i < k → a[i] = b[i]) (by omega) rfl rfl rfl ⟨rfl, by omega, by omega⟩ ?_ ?_
  · rintro k vs L' hk - ⟨rfl, hkb, hI⟩
    simp only [go_sem]
    have hd := cmpL_drop k a b (by omega) hkb hI
    rw [List.drop_eq_getElem_cons hk] at hd
    repeat (first | ((with_reducible refine AWp.ofC ?_ ?_); (focus exact rfl); simp only [go_sem, getD_map hk]) | ((with_reducible refine an ?_ ?_); focus exact Au))
    repeat (first | ((with_reducible refine AWp.ofC ?_ ?_); (focus exact rfl); simp only [go_sem]) | ((with_reducible refine an ?_ ?_); focus exact Au))
    refine ⟨fun h1 => ?_, fun h1 => ?_⟩
    · repeat (first | ((with_reducible refine AWp.ofC ?_ ?_); (focus exact rfl); simp only [go_sem]) | ((with_reducible refine an ?_ ?_); focus exact Au))
      refine ret_eq ?_; simp only [go_sem]
      rw [hd, show b.drop k = [] from List.drop_of_length_le (by omega)]; rfl
    · have hkb2 : k < b.length := by omega
      rw [List.drop_eq_getElem_cons hkb2] at hd
      rw [cmpL_cons] at hd
      repeat (first | ((with_reducible refine AWp.ofC ?_ ?_); (focus exact rfl); simp only [go_sem, getD_map hkb2]) | ((with_reducible refine an ?_ ?_); focus exact Au))
      repeat ((with_reducible refine an ?_ ?_); focus exact As)
      refine (cmp_int a[k] b[k]).val.use ?_; simp only [go_sem]
      repeat (first | ((with_reducible refine AWp.ofC ?_ ?_); (focus exact rfl); simp only [go_sem]) | ((with_reducible refine an ?_ ?_); focus exact Au))
      refine ⟨fun h2 => ?_, fun h2 => ?_⟩
      · repeat (first | ((with_reducible refine AWp.ofC ?_ ?_); (focus exact rfl); simp only [go_sem]) | ((with_reducible refine an ?_ ?_); focus exact Au))
        refine ret_eq ?_; simp only [go_sem]
        rw [hd]; unfold cmpI at h2 ⊢
        by_cases c1 : a[k] < b[k]
        · rw [if_pos c1, if_pos c1]
        · by_cases c2 : b[k] < a[k]
          · rw [if_neg c1, if_neg c1, if_pos c2, if_pos c2]
          · rw [if_neg c1, if_neg c2] at h2; exact absurd rfl h2
      · refine ⟨[], List.Sublist.refl _, rfl, by omega, fun i hi h' hik => ?_⟩
        by_cases e : i = k
        · subst e; unfold cmpI at h2
          by_cases c1 : a[i] < b[i]
          · rw [if_pos c1] at h2; exact absurd h2 (by omega)
          · by_cases c2 : b[i] < a[i]
            · rw [if_neg c1, if_pos c2] at h2; exact absurd h2 (by omega)
            · omega
        · exact hI i hi h' (by omega)
  · rintro vs L' - ⟨rfl, hkb, hI⟩
    simp only [go_sem]
    have hd := cmpL_drop a.length a b (by omega) hkb hI
    rw [List.drop_of_length_le (Nat.le_refl _)] at hd
    repeat (first | ((with_reducible refine AWp.ofC ?_ ?_); (focus exact rfl); simp only [go_sem]) | ((with_reducible refine an ?_ ?_); focus exact Au))
    refine ⟨fun h1 => ?_, fun h1 => ?_⟩
    · repeat (first | ((with_reducible refine AWp.ofC ?_ ?_); (focus exact rfl); simp only [go_sem]) | ((with_reducible refine an ?_ ?_); focus exact Au))
      refine ret_eq ?_; simp only [go_sem]
      rw [hd, List.drop_eq_getElem_cons (show a.length < b.length by omega)]; rfl
    · repeat (first | ((with_reducible refine AWp.ofC ?_ ?_); (focus exact rfl); simp only [go_sem]) | ((with_reducible refine an ?_ ?_); focus exact Au))
      refine ret_eq ?_; simp only [go_sem]
      rw [hd, List.drop_of_length_le (by omega)]; rfl
theorem next_cmp (a b : List Int) (ha : a.length ≤ 1000000) : PC Go.Proofs.Tryz.prog 126 [aInts a, aInts b] (ai (cmpL a b)) := by
  refine PC.enter 8 [.tmp 4] [] Go.Proofs.Tryz.func126 rfl rfl rfl rfl rfl (by simp) (AWp.of ?_); simp only [go_sem]
  repeat (first | ((with_reducible refine AWp.ofC ?_ ?_); (focus exact rfl); simp only [go_sem]) | ((with_reducible refine an ?_ ?_); focus exact Au))
  repeat ((with_reducible refine an ?_ ?_); focus exact As)
  refine (ints_compare a b ha).val.use ?_; simp only [go_sem]
  repeat (first | ((with_reducible refine AWp.ofC ?_ ?_); (focus exact rfl); simp only [go_sem]) | ((with_reducible refine an ?_ ?_); focus exact Au))
  refine ret_eq ?_; simp only [go_sem]
theorem next_same (a b : List Int) (ha : a.length ≤ 1000000) : PC Go.Proofs.Tryz.prog 129 [aInts a, aInts b] (ab (decide (a = b))) := by
  refine PC.enter 8 [.tmp 4] [] Go.Proofs.Tryz.func129 rfl rfl rfl rfl rfl (by simp) (AWp.of ?_); simp only [go_sem]
  repeat (first | ((with_reducible refine AWp.ofC ?_ ?_); (focus exact rfl); simp only [go_sem]) | ((with_reducible refine an ?_ ?_); focus exact Au))
  repeat ((with_reducible refine an ?_ ?_); focus exact As)
  refine (ints_equal a b ha).val.use ?_; simp only [go_sem]
  repeat (first | ((with_reducible refine AWp.ofC ?_ ?_); (focus exact rfl); simp only [go_sem]) | ((with_reducible refine an ?_ ?_); focus exact Au))
  refine ret_eq ?_; simp only [go_sem]
def sortL (xs : List (List Int)) : List (List Int) := sortBy cmpL xs
theorem sort_rows (b cap : Nat) (xs : List (List Int)) (hx : ∀ x ∈ xs, x.length ≤ 1000000) (hl : xs.length ≤ 1000000) (t : TypeId) :
    MCalls Go.Proofs.Tryz.prog 125 [.ls b 1 0 xs.length cap, .v (.func (.func 126) #[] #[])] [(b, .row t 1 (xs.map aInts) cap)] fun r L' => r = .tup [] ∧ L' = [(b, .row t 1 ((sortL xs).map aInts) cap)] :=
  sort_calls' sortRows aInts (fun x => x.length ≤ 1000000) [] (by simp) (fun w A => ⟨.slice none 0 0, .sl0 _ _ _ (Nat.zero_le _)⟩) (fun x _ => rfl) cmpL swoL cmpL_anti (fun x y h _ => next_cmp x y h) b cap xs hx (by omega)
end Go.AL
end
section
/- The layer AL: a statement that neither reads nor turns the owned memory is walked without it. -/
namespace Go.AL
open Go Go.RowKit
variable {C : Cfg} {a b : Code} {Q : AQ} {ρ : Env} {L : AHeap}
theorem AWp.cutF (ks : List Nat) (J : List AV → AHeap → Prop) (h1 : AWp C a (cutQ ks J fun _ _ _ => False) ρ [])
    (h2 : ∀ vs L', vs.length = ks.length → J vs L' → AWp C b Q (ks.zip vs) (L ++ L')) : AWp C (.seq a b) Q ρ L := by
  refine AWp.cut ks (fun vs L' => ∃ L1, L' = L ++ L1 ∧ J vs L1) ?_ ?_
  · have h := AWp.frame L h1
    rw [List.append_nil] at h
    refine h.mono fun e ρ' L'' ⟨L', e1, hq⟩ => ?_
    cases e with
    | normal =>
      obtain ⟨L1, hs, hj⟩ := hq
      exact ⟨L ++ L1, e1 ▸ (List.Sublist.refl _).append hs, L1, rfl, hj⟩
    | _ => exact hq.elim
  · rintro vs L' hl ⟨L1, rfl, hj⟩
    exact h2 vs L1 hl hj
/-- What was appended becomes read-only. -/
theorem AWp.viewA {c : Code} {t : TypeId} {k j : Nat} {ys : List AV} {v : AV} {L1 : AHeap} (hA : AppSt t k ys v L1) (hj : get ρ j = v) (h : AWp C c Q ((j, .sl k ys) :: ρ) L) : AWp C c Q ρ (L ++ L1) := by
  refine AWp.viewP (Lf := L1) (Lk := L) (L' := L) List.perm_append_comm (LVw.refl _) [(j, .sl k ys)] (fun p hp => ?_) h
  obtain rfl := List.mem_singleton.1 hp
  have := hA.vw []
  rw [List.append_nil] at this
  rw [hj]; exact this
/-- A row that one owns has room for its elements. -/
theorem AWp.capOk {c : Code} {b k cap : Nat} {t : TypeId} {xs : List AV} (hl : lk L b = some (.row t k xs cap)) (h : xs.length ≤ cap → AWp C c Q ρ L) : AWp C c Q ρ L := fun hok n w0 M A0 a w hs => by
  obtain ⟨A, ds, h1, h2, h3, h4⟩ := hs
  obtain ⟨_, _, _, h5, _⟩ := BlkRel.row_iff.1 (h3.lk hl)
  exact h h5 hok n w0 M A0 a w ⟨A, ds, h1, h2, h3, h4⟩
end Go.AL
end
section
/- The layer AL: a drawn statement that only reads: whatever is owned stays as it is, so that each operation may come at any time. No condition. -/
namespace Go.AL
open Go Go.RowKit

/-- Operation i yields x in this memory, and leaves it. -/
def YldL (C : Cfg) (ops : Array Oper) (i : Nat) (o : Oper) (x : AV) (ρ : Env) (L : AHeap) : Prop :=
  ∀ ρ', (∀ t ∈ o.looksAt ops, get ρ' t = get ρ t) → GOp C ops i ρ' L fun ρ2 L2 => ρ2 = put ρ' o.dst x ∧ L2 = L
def aqL (C : Cfg) (all : List Oper) (o : Oper) (ρ : Env) (L : AHeap) (K : Env → Prop) : Prop :=
  match o.guard with
  | none => match aval C.P ρ L o.op with
    | some (c, x) => c ∧ K (put ρ o.dst x)
    | none => match o.op with
      | .call c => match c.callee with
        | .value g => GCall C.P True ((fo (ev ρ g)).1 ∧ fos (c.args.toList.map (ev ρ))) (fo (ev ρ g)).2 (c.args.toList.map fun x => (fo (ev ρ x)).2) L (putQ K ρ o.dst)
        | _ => False
      | _ => False
  | some (j, want) => match gval all ρ j want with
    | some b => match aval C.P ρ L o.op with
      | some (c, x) => (b = want → c) ∧ K (put ρ o.dst (.cond (b == want) x))
      | none => match o.op with
        | .call c => match c.callee with
          | .value g => GCall C.P (b = want) ((fo (ev ρ g)).1 ∧ fos (c.args.toList.map (ev ρ))) (fo (ev ρ g)).2 (c.args.toList.map fun x => (fo (ev ρ x)).2) L (putQC K ρ o.dst (b == want))
          | _ => b ≠ want ∧ K (put ρ o.dst (.cond (b == want) .any))
        | _ => b ≠ want ∧ K (put ρ o.dst (.cond (b == want) .any))
    | none => False
def aqLRun (C : Cfg) (all : List Oper) (L : AHeap) : List Nat → (Env → Prop) → Env → Prop
  | [], K, ρ => K ρ
  | i :: r, K, ρ => match all[i]? with
    | some o => aqL C all o ρ L (aqLRun C all L r K)
    | none => False
section
variable {C : Cfg} {ops : Array Oper} {L : AHeap}
theorem aqL_yields {i : Nat} {o : Oper} {ρ : Env} {K : Env → Prop} (hi : ops[i]? = some o) (hok : operOk C.N o = true) (h : aqL C ops.toList o ρ L K) : ∃ x, YldL C ops i o x ρ L ∧ K (put ρ o.dst x) := by
  have hd := operOk_dst hok
  have hdef := operOk_def hok
  unfold aqL at h
  split at h
  · rename_i hg
    split at h
    · rename_i c x hv
      exact ⟨x, fun ρ' hag => AOp.gop hi hg (aval_sound (by rw [aval_congr (agree_ops hag)]; exact hv) h.1 hd hdef), h.2⟩
    · split at h
      · rename_i cl ho
        split at h
        · rename_i g h0
          obtain ⟨r, h1, h2⟩ := h
          refine ⟨r, fun ρ' hag => AOp.gop hi hg ?_, h2⟩
          have hag' := agree_ops hag
          rw [ho] at hag'
          obtain ⟨e1, e2, e3⟩ := call_congr h0 hag'
          exact call_sound ho h0 hd (by rw [e1, e2, e3]; exact ⟨(h1 trivial).1.1, (h1 trivial).1.2, (h1 trivial).2⟩)
        · exact h.elim
      · exact h.elim
  · rename_i j want hg
    split at h
    · rename_i b hv
      split at h
      · rename_i c x ha
        refine ⟨_, fun ρ' hag => GOp.of_cond hi hg (by rw [agree_guard hag hg]; exact hv) hd fun hb => aval_sound (by rw [aval_congr (agree_ops hag)]; exact ha) (h.1 hb) hd hdef, h.2⟩
      · split at h
        · rename_i cl ho
          split at h
          · rename_i g h0
            obtain ⟨r, h1, h2⟩ := h
            refine ⟨_, fun ρ' hag => GOp.of_cond hi hg (by rw [agree_guard hag hg]; exact hv) hd fun hb => ?_, h2⟩
            have hag' := agree_ops hag
            rw [ho] at hag'
            obtain ⟨e1, e2, e3⟩ := call_congr h0 hag'
            exact call_sound ho h0 hd (by rw [e1, e2, e3]; exact ⟨(h1 hb).1.1, (h1 hb).1.2, (h1 hb).2⟩)
          · refine ⟨_, fun ρ' hag => GOp.of_cond hi hg (by rw [agree_guard hag hg]; exact hv) hd fun hb => absurd hb h.1, h.2⟩
        · refine ⟨_, fun ρ' hag => GOp.of_cond hi hg (by rw [agree_guard hag hg]; exact hv) hd fun hb => absurd hb h.1, h.2⟩
    · exact h.elim
def QFactL (C : Cfg) (ops : Array Oper) (ρ : Env) (L : AHeap) (q : Nat) : Prop := ∃ o x, ops[q]? = some o ∧ YldL C ops q o x ρ L ∧ ∀ d, o.dst = some d → get ρ d = x
theorem YldL.of_agree {i : Nat} {o : Oper} {x : AV} {ρ ρ' : Env} (h : YldL C ops i o x ρ L) (he : ∀ t ∈ o.looksAt ops, get ρ' t = get ρ t) : YldL C ops i o x ρ' L :=
  fun ρ2 hag => h ρ2 fun t ht => (hag t ht).trans (he t ht)
theorem aqLRun_facts {qs0 : List Nat} (hm : mixOk ops qs0 = true) (hok : ops.toList.all (operOk C.N) = true) : ∀ (qs : List Nat) (ρ : Env) (K : Env → Prop), (∀ q ∈ qs, q ∈ qs0) → ascend qs = true → aqLRun C ops.toList L qs K ρ →
    ∃ ρq, K ρq ∧ (∀ q ∈ qs, QFactL C ops ρq L q) ∧ ∀ s, (∀ q ∈ qs, dstOf ops q ≠ some s) → get ρq s = get ρ s
  | [], ρ, K, _, _, h => ⟨ρ, h, fun q hq => (by cases hq), fun _ _ => rfl⟩
  | i :: r, ρ, K, hsub, hasc, h => by
    obtain ⟨hlt, hasc'⟩ := ascend_cons hasc
    simp only [aqLRun] at h
    cases ho : ops.toList[i]? with
    | none => rw [ho] at h; exact h.elim
    | some o =>
      rw [ho] at h
      have ho' : ops[i]? = some o := by simpa using ho
      obtain ⟨x, hy, hK⟩ := aqL_yields ho' (List.all_eq_true.1 hok o (List.mem_of_getElem? ho)) h
      obtain ⟨ρq, h1, h2, h3⟩ := aqLRun_facts hm hok r _ K (fun q hq => hsub q (List.mem_cons_of_mem _ hq)) hasc' hK
      obtain ⟨p1, p2, _⟩ := mix_at hm ho'
      have hself : ∀ d, o.dst = some d → d ∉ o.looksAt ops := fun d hd hm' => by
        have := (p2 i (hsub i List.mem_cons_self) d (by simp [dstOf, ho', hd])).1 hm'
        exact absurd (p1 i this) (Nat.lt_irrefl i)
      refine ⟨ρq, h1, fun q hq => ?_, fun s hs => ?_⟩
      · rcases List.mem_cons.1 hq with rfl | hq
        · refine ⟨o, x, ho', hy.of_agree fun t ht => ?_, fun d hd => ?_⟩
          · rw [h3 t fun q' hq' he => ?_, get_put, if_neg fun he => hself t he ht]
            have := (p2 q' (hsub q' (List.mem_cons_of_mem _ hq')) t he).1 ht
            have := p1 q' this; have := hlt q' hq'; omega
          · rw [h3 d fun q' hq' he => ?_, get_put, if_pos hd]
            exact (p2 q' (hsub q' (List.mem_cons_of_mem _ hq')) d he).2 (by have := hlt q' hq'; omega) hd
        · exact h2 q hq
      · rw [h3 s fun q hq => hs q (List.mem_cons_of_mem _ hq), get_put, if_neg]
        have := hs i List.mem_cons_self
        simpa [dstOf, ho'] using this
theorem read_sound {qs : List Nat} (hm : mixOk ops qs = true) (hall : ∀ i, i < ops.size → i ∈ qs) {K : ARes} {n : Nat} {w0 : World} {M A0 : Foot} {Q : Exit → Act → World → Prop} (hQ : ∀ a w, post w0 M A0 C.N K a w → Q .normal a w) {ρT : Env} (hK : K ρT L) :
    ∀ (f : Nat) (listed : Array Bool) (a : Act) (w : World), listed.size = ops.size →
      (∀ l : List Nat, l.Nodup → (∀ i ∈ l, listed.getD i true = false) → l.length ≤ f) →
      (∀ q ∈ qs, listed.getD q true = false → QFactL C ops ρT L q) → St w0 M A0 C.N (mask ops qs listed ρT) L a w →
      wpAnyIn (Fw C.r) n C.P .any ops Q f listed a w := by
  have fin : ∀ (listed : Array Bool) (a : Act) (w : World), listed.size = ops.size → St w0 M A0 C.N (mask ops qs listed ρT) L a w → Region.ready .any ops listed = [] → Q .normal a w := by
    intro listed a w hsz hs hr
    have all : ∀ i, listed.getD i true = true := by
      intro i
      induction i using Nat.strongRecOn with
      | _ i ih =>
        cases hi : listed.getD i true with
        | true => rfl
        | false =>
          exfalso
          have hlt : i < ops.size := by
            rw [← hsz]
            by_cases h : i < listed.size
            · exact h
            · simp [Array.getD, h] at hi
          have ho : ops[i]? = some ops[i] := Array.getElem?_eq_getElem hlt
          have : i ∈ Region.ready .any ops listed := mem_ready.2 ⟨hi, _, ho, fun e he hb => by
            have hp := (mix_at hm ho).1 e.on (List.mem_map.2 ⟨e, List.mem_filter.2 ⟨by simpa using he, hb⟩, rfl⟩)
            exact getD_ft (by omega) (ih _ hp)⟩
          rw [hr] at this; cases this
    refine hQ a w ⟨ρT, L, hK, st_forget hs fun i => .inr ?_⟩
    rw [mask_out fun q _ hl => by rw [all q] at hl; cases hl]
  intro f
  induction f with
  | zero =>
    intro listed a w hsz hcnt hfact hs
    have hr : Region.ready .any ops listed = [] := by
      cases hh : Region.ready .any ops listed with
      | nil => rfl
      | cons j r =>
        have hj : j ∈ Region.ready .any ops listed := by rw [hh]; exact List.mem_cons_self
        have := hcnt [j] (by simp) (fun i hi => by simp at hi; subst hi; exact (mem_ready.1 hj).1)
        simp at this
    exact ⟨hr, fin listed a w hsz hs hr⟩
  | succ f ih =>
    intro listed a w hsz hcnt hfact hs
    refine ⟨fin listed a w hsz hs, fun i hi => ?_⟩
    obtain ⟨hun, o, ho, hpre⟩ := mem_ready.1 hi
    have hlt : i < ops.size := (Array.getElem?_eq_some_iff.1 ho).1
    obtain ⟨m1, m2, m3⟩ := mix_at hm ho
    have hlooks : ∀ t ∈ o.looksAt ops, get (mask ops qs listed ρT) t = get ρT t := fun t ht => mask_out fun q hq hl hd => by
      have hp := (m2 q hq t hd).1 ht
      obtain ⟨e, he, rfl⟩ := List.mem_map.1 hp
      obtain ⟨he1, he2⟩ := List.mem_filter.1 he
      have := getD_tf (hpre e (by simpa using he1) he2)
      rw [hl] at this; cases this
    have hcnt' : ∀ l : List Nat, l.Nodup → (∀ j ∈ l, (listed.setIfInBounds i true).getD j true = false) → l.length ≤ f := fun l hn hl => by
      have hil : i ∉ l := fun h => by
        have := hl i h
        simp [Array.getD, show i < listed.size by omega] at this
      have := hcnt (i :: l) (List.nodup_cons.2 ⟨hil, hn⟩) (fun j hj => by
        rcases List.mem_cons.1 hj with rfl | hj
        · exact hun
        · have := hl j hj
          have hne : i ≠ j := fun e => hil (e ▸ hj)
          rwa [getD_set_ne true hne] at this)
      simp at this; omega
    have hset : ∀ j, j ≠ i → (listed.setIfInBounds i true).getD j true = listed.getD j true := fun j hj => getD_set_ne true (Ne.symm hj)
    have hq := hall i hlt
    obtain ⟨o', x, ho', hy, hgx⟩ := hfact i hq hun
    rw [ho] at ho'; cases ho'
    refine wpOpIn_mono ?_ (hy _ hlooks n w0 M A0 a w Q hs)
    rintro a' w' ⟨ρ2, L2, ⟨rfl, rfl⟩, hs2⟩
    refine ih _ a' w' (by simpa using hsz) hcnt' (fun q hq' hl => hfact q hq' (by
      by_cases e : q = i
      · subst e; exact hun
      · rwa [hset q e] at hl)) (st_forget hs2 fun s => ?_)
    rcases mask_or (ops := ops) qs (listed.setIfInBounds i true) ρT s with ⟨h1, _⟩ | ⟨h1, h2⟩
    · exact .inl h1
    · refine .inr ?_
      rw [h1, get_put]
      by_cases hd : o.dst = some s
      · rw [if_pos hd]; exact hgx s hd
      · rw [if_neg hd, mask_out fun q hq' hl hds => ?_]
        by_cases e : q = i
        · subst e; exact hd (by simpa [dstOf, ho] using hds)
        · exact h2 q hq' (by rw [hset q e]; exact hl) hds
end
def readAll (ops : Array Oper) (qs : List Nat) : Bool := mixOk ops qs && (List.range ops.size).all fun i => qs.contains i
def readK (K : ARes) (L : AHeap) (ρ : Env) : Prop := K ρ L
/-- A drawing statement that only reads. -/
theorem AWp.read {C : Cfg} {id : Nat} {ops : Array Oper} {Q : AQ} {ρ : Env} {L : AHeap} (hmx : C.P.follows .mixedOrders = true) (qs : List Nat) (hT : readAll ops qs = true) (h : aqLRun C ops.toList L qs (readK (Q .normal) L) ρ) :
    AWp C (.region id ops true) Q ρ L := fun hok n w0 M A0 a w hs => by
  simp only [readAll, Bool.and_eq_true, List.all_eq_true, List.contains_eq_mem, decide_eq_true_eq] at hT
  obtain ⟨hm, hal⟩ := hT
  have hasc := mix_asc hm
  obtain ⟨ρq, hK, hF, hother⟩ := aqLRun_facts hm hok qs ρ _ (fun _ h => h) hasc.1 h
  refine wpIn_region_any hmx ?_
  obtain ⟨A, ds, hs'⟩ := st_iff.1 hs
  refine read_sound hm (fun i hi => hal i (List.mem_range.2 hi)) (K := Q .normal) (fun a w ⟨ρ', L', h1, h2⟩ => ⟨ρ', L', h1, h2⟩) hK ops.size _ a _ (by simp) ?_ (fun q hq _ => hF q hq) (st_forget (st_iff.2 ⟨A, ds, hs'.drew⟩) fun s => ?_)
  · intro l hn hl
    have := List.Nodup.length_le_of_subset hn (l₂ := List.range ops.size) (fun i hi => by
      have := hl i hi
      rw [List.mem_range]
      by_cases h : i < ops.size
      · exact h
      · simp [Array.getD, h] at this)
    simpa using this
  · rcases mask_or (ops := ops) qs (Array.replicate ops.size false) ρq s with ⟨h1, _⟩ | ⟨h1, h2⟩
    · exact .inl h1
    · refine .inr ?_
      rw [h1]
      exact hother s fun q hq hd => h2 q hq (by simp [Array.getD, hasc.2 q hq]) hd
theorem aqLRun_nil (C : Cfg) (all : List Oper) (L : AHeap) (K : Env → Prop) (ρ : Env) : aqLRun C all L [] K ρ = K ρ := rfl
theorem aqLRun_cons (C : Cfg) (all : List Oper) (L : AHeap) (i : Nat) (r : List Nat) (K : Env → Prop) (ρ : Env) : aqLRun C all L (i :: r) K ρ = (match all[i]? with | some o => aqL C all o ρ L (aqLRun C all L r K) | none => False) := rfl
attribute [go_sem] aqLRun_nil aqLRun_cons aqL readK
end Go.AL
end
section
/- Dropping what follows its equal: the library's slices.CompactFunc at rows of counts. No condition. -/
namespace Go.AL
open Go Go.RowKit
set_option maxRecDepth 4000
/-- Of the first n, those that differ from the one ahead. -/
def compN (xs : List (List Int)) : Nat → List (List Int)
  | 0 => []
  | 1 => xs.take 1
  | n + 2 => if xs[n + 1]? = xs[n]? then compN xs (n + 1) else compN xs (n + 1) ++ xs[n + 1]?.toList
def compL (xs : List (List Int)) : List (List Int) := compN xs xs.length
theorem compN_all {xs : List (List Int)} : ∀ {n : Nat}, n ≤ xs.length → (∀ (i : Nat), 0 < i → i < n → xs[i]? ≠ xs[i - 1]?) → compN xs n = xs.take n
  | 0, _, _ => by simp [compN]
  | 1, _, _ => rfl
  | n + 2, hn, h => by
    have h1 := compN_all (n := n + 1) (by omega) fun i h0 hi => h i h0 (by omega)
    have h2 := h (n + 1) (by omega) (by omega)
    unfold compN
    rw [if_neg (by simpa using h2), h1, List.take_add_one (i := n + 1)]
theorem compN_mem {xs : List (List Int)} {x : List Int} : ∀ n, x ∈ compN xs n ↔ x ∈ xs.take n
  | 0 => by simp [compN]
  | 1 => by unfold compN; rfl
  | n + 2 => by
    have ih := compN_mem (xs := xs) (x := x) (n + 1)
    unfold compN
    rw [List.take_add_one (i := n + 1), List.mem_append, ← ih]
    split
    · rename_i e
      refine ⟨.inl, fun h => h.elim id fun h => ih.2 ?_⟩
      rw [e] at h
      rw [List.take_add_one, List.mem_append]; exact .inr h
    · rw [List.mem_append]
theorem compL_mem {xs : List (List Int)} {x : List Int} : x ∈ compL xs ↔ x ∈ xs := by unfold compL; rw [compN_mem, List.take_length]
theorem compN_pair {xs : List (List Int)} (hs : xs.Pairwise fun x y => ¬ cmpL y x < 0) : ∀ n, n ≤ xs.length → (compN xs n).Pairwise (fun x y => cmpL x y < 0)
  | 0, _ => by simp [compN]
  | 1, _ => by
    unfold compN
    cases xs with
    | nil => simp
    | cons x xs => simp
  | n + 2, hn => by
    have ih := compN_pair hs (n + 1) (by omega)
    unfold compN
    split
    · exact ih
    · rename_i hne
      rw [List.getElem?_eq_getElem (by omega), List.getElem?_eq_getElem (show n < xs.length by omega)] at hne
      rw [List.getElem?_eq_getElem (by omega)]
      rw [List.pairwise_append]
      refine ⟨ih, by simp, fun x hx y hy => ?_⟩
      obtain rfl : y = xs[n + 1] := by simpa using hy
      rw [compN_mem] at hx
      obtain ⟨i, hi, rfl⟩ := List.getElem_of_mem hx
      have hi' : i < n + 1 := by simp at hi; omega
      rw [List.getElem_take]
      rw [List.pairwise_iff_getElem] at hs
      have h1 : ¬ cmpL xs[n + 1] xs[n] < 0 := hs n (n + 1) (by omega) (by omega) (by omega)
      have h3 : cmpL xs[n] xs[n + 1] < 0 := by
        by_cases c : cmpL xs[n] xs[n + 1] < 0
        · exact c
        · exact absurd (congrArg some (cmpL_anti _ _ h1 c)) hne
      by_cases e : i = n
      · subst e; exact h3
      · have h2 : ¬ cmpL xs[n] xs[i] < 0 := hs i n (by omega) (by omega) (by omega)
        by_cases c : cmpL xs[i] xs[n] < 0
        · exact cmpL_trans _ _ _ c h3
        · rw [cmpL_anti _ _ c h2]; exact h3
theorem compN_two (xs : List (List Int)) (n : Nat) : compN xs (n + 2) = if xs[n + 1]? = xs[n]? then compN xs (n + 1) else compN xs (n + 1) ++ xs[n + 1]?.toList := by rw [compN]
theorem rows_compact (b cap : Nat) (xs : List (List Int)) (hx : ∀ x ∈ xs, x.length ≤ 1000000) (hl : xs.length ≤ 1000000) :
    MCalls Go.Proofs.Tryz.prog 128 [.ls b 1 0 xs.length cap, .v (.func (.func 129) #[] #[])] [(b, .row 42 1 (xs.map aInts) cap)]
      fun r L' => ∃ ws cap', r = .ls b 1 0 (compL xs).length cap' ∧ L' = [(b, .row 42 1 ((compL xs).map aInts ++ ws) cap)] := by
  refine MCalls.enter' 66 [.tmp 4] [] Go.Proofs.Tryz.func128 rfl rfl rfl rfl rfl (by simp) (AWp.of ?_); simp only [go_sem]
  refine AWp.capOk (b := b) (if_pos rfl) fun hcap => ?_
  rw [List.length_map] at hcap
  repeat (first | ((with_reducible refine AWp.ofC ?_ ?_); (focus exact rfl); simp only [go_sem]) | ((with_reducible refine an ?_ ?_); focus exact Au))
  refine ⟨fun h => ?_, fun h => ?_⟩
  · repeat (first | ((with_reducible refine AWp.ofC ?_ ?_); (focus exact rfl); simp only [go_sem]) | ((with_reducible refine an ?_ ?_); focus exact Au))
    refine ret_own ?_
    simp only [go_sem]
    have e : compL xs = xs := by
      unfold compL
      rw [compN_all (Nat.le_refl _) (fun i h0 hi => by omega), List.take_length]
    exact ⟨[], cap, by rw [e], by rw [e, List.append_nil]⟩
  · repeat (first | ((with_reducible refine AWp.ofC ?_ ?_); (focus exact rfl); simp only [go_sem]) | ((with_reducible refine an ?_ ?_); focus exact Au))
    refine AWp.block (AWp.loopN [5] [0, 1] (fun m vs L => ∃ k : Nat, vs = [ai k] ∧ 1 ≤ k ∧ k ≤ xs.length ∧ m = xs.length - k ∧ L = [(b, .row 42 1 (xs.map aInts) cap)] ∧ ∀ (i : Nat), 0 < i → i < k → xs[i]? ≠ xs[i - 1]?) (xs.length - 1) ⟨1, rfl, by omega, by omega, rfl, rfl, fun i h1 h2 => by omega⟩ ?_)
    rintro m vs L - ⟨k, rfl, k1, k2, rfl, rfl, hI⟩
    simp only [go_sem]
    repeat (first | ((with_reducible refine AWp.ofC ?_ ?_); (focus exact rfl); simp only [go_sem]) | ((with_reducible refine an ?_ ?_); focus exact Au))
    refine ⟨fun h1 => ?_, fun h1 => ?_⟩
    · have hk : k < xs.length := by omega
      have hk1 : k - 1 < xs.length := by omega
      repeat (first | ((with_reducible refine AWp.ofC ?_ ?_); (focus exact rfl); simp only [go_sem]) | ((with_reducible refine an ?_ ?_); focus exact Au))
      refine AWp.seq (AWp.block (AWp.seq ?_))
      have hkm : ((k : Int) - 1).toNat = k - 1 := by omega
      have sm := next_same xs[k] xs[k - 1] (hx _ (List.getElem_mem hk))
      simp only [go_sem] at sm
      repeat (first | (with_reducible refine AWp.seq ?_) | (with_reducible refine AWp.block ?_))
      refine AWp.read mixed [0, 1, 2, 3, 4, 5, 6, 7, 8, 9, 10] (by kernel_rfl) ?_; simp only [go_sem, getD_map hk, getD_map hk1, hkm]
      repeat ((with_reducible refine an ?_ ?_); focus exact As)
      refine GCall.use (ab (decide (xs[k] = xs[k - 1]))) (fun _ => ⟨At, sm.val.use ⟨rfl, rfl⟩⟩) ?_
      simp only [go_sem]
      repeat (first | ((with_reducible refine AWp.ofC ?_ ?_); (focus exact rfl); simp only [go_sem]) | ((with_reducible refine an ?_ ?_); focus exact Au))
      refine ⟨fun h2 => ?_, fun h2 => ?_⟩
      · have c0 : compN xs (k + 1) = xs.take k := by
          obtain ⟨j, rfl⟩ : ∃ j, k = j + 1 := ⟨k - 1, by omega⟩
          rw [compN_two, if_pos (by rw [List.getElem?_eq_getElem hk, List.getElem?_eq_getElem (show j < xs.length by omega)]; exact congrArg some h2)]
          exact compN_all (by omega) hI
        repeat (first | ((with_reducible refine AWp.ofC ?_ ?_); (focus exact rfl); simp only [go_sem]) | ((with_reducible refine an ?_ ?_); focus exact Au))
        refine AWp.block (AWp.loopN [5, 7] [0, 1, 6] (fun m vs L => ∃ (q : Nat) (c zs : List (List Int)), vs = [ai c.length, ai q] ∧ 1 ≤ q ∧ k + q ≤ xs.length ∧ c = compN xs (k + q) ∧ c.length ≤ k + q - 1 ∧ zs = c ++ xs.drop c.length ∧ m = xs.length - (k + q) ∧
          L = [(b, .row 42 1 (zs.map aInts) cap)]) (xs.length - (k + 1)) ⟨1, xs.take k, xs, by rw [List.length_take, Nat.min_eq_left k2]; rfl, by omega, by omega, c0.symm, by rw [List.length_take]; omega, by rw [List.length_take, Nat.min_eq_left k2, List.take_append_drop], rfl, rfl⟩ ?_)
        rintro m vs L - ⟨q, c, zs, rfl, q1, q2, hc, hcl, hz, rfl, rfl⟩
        have zl : zs.length = xs.length := by rw [hz, List.length_append, List.length_drop]; omega
        have zg : ∀ (i : Nat) (h1 : i < xs.length), c.length ≤ i → (zs.map aInts).getD i .any = aInts xs[i] := fun i h1 h2 => by
          rw [getD_map (by omega)]
          subst hz
          rw [List.getElem_append_right h2, List.getElem_drop]
          congr 2; omega
        simp only [go_sem]
        repeat (first | ((with_reducible refine AWp.ofC ?_ ?_); (focus exact rfl); simp only [go_sem]) | ((with_reducible refine an ?_ ?_); focus exact Au))
        refine ⟨fun h3 => ?_, fun h3 => ?_⟩
        · have hkq : k + q < xs.length := by omega
          have hkq1 : k + q - 1 < xs.length := by omega
          have g1 := zg (k + q) hkq (by omega)
          have g2 := zg (k + q - 1) hkq1 (by omega)
          have e1 : ((q : Int) - 1).toNat = q - 1 := by omega
          have e2 : k + (q - 1) = k + q - 1 := by omega
          have sm := next_same xs[k + q] xs[k + q - 1] (hx _ (List.getElem_mem hkq))
          simp only [go_sem] at sm
          repeat (first | ((with_reducible refine AWp.ofC ?_ ?_); (focus exact rfl); simp only [go_sem]) | ((with_reducible refine an ?_ ?_); focus exact Au))
          refine AWp.seq (AWp.block (AWp.seq ?_))
          repeat (first | (with_reducible refine AWp.seq ?_) | (with_reducible refine AWp.block ?_))
          refine AWp.read mixed [0, 1, 2, 3, 4, 5, 6, 7, 8, 9, 10, 11] (by kernel_rfl) ?_; simp only [go_sem, g1, g2, e1, e2]
          repeat ((with_reducible refine an ?_ ?_); focus exact As)
          refine GCall.use (ab (decide (xs[k + q] = xs[k + q - 1]))) (fun _ => ⟨At, sm.val.use ⟨rfl, rfl⟩⟩) ?_
          simp only [go_sem]
          have hq' : k + q - 2 + 1 = k + q - 1 := by omega
          have hstep : compN xs (k + (q + 1)) = if xs[k + q]? = xs[k + q - 1]? then c else c ++ xs[k + q]?.toList := by
            rw [show k + (q + 1) = (k + q - 1) + 2 by omega, compN_two, show k + q - 1 + 1 = k + q by omega, ← hc]
          rw [List.getElem?_eq_getElem hkq, List.getElem?_eq_getElem hkq1] at hstep
          have g0 := zg c.length (by omega) (Nat.le_refl _)
          repeat (first | ((with_reducible refine AWp.ofC ?_ ?_); (focus exact rfl); simp only [go_sem, g1, g0]) | ((with_reducible refine an ?_ ?_); focus exact Au))
          refine ⟨fun h4 => ?_, fun h4 => ?_⟩
          · rw [if_neg (fun e => h4 (Option.some.inj e))] at hstep
            repeat (first | ((with_reducible refine AWp.ofC ?_ ?_); (focus exact rfl); simp only [go_sem]) | ((with_reducible refine an ?_ ?_); focus exact Au))
            refine ⟨_, List.Sublist.refl _, _, ?_, q + 1, c ++ [xs[k + q]], zs.set c.length xs[k + q], ?_, by omega, by omega, hstep.symm, by simp; omega, ?_, rfl, ?_⟩
            · omega
            · rw [List.length_append]; rfl
            · rw [hz, List.set_append_right _ _ (Nat.le_refl _), Nat.sub_self, List.drop_eq_getElem_cons (show c.length < xs.length by omega), List.set_cons_zero, List.append_assoc, List.length_append]; rfl
            · rw [List.map_set]; rfl
          · rw [if_pos (congrArg some h4)] at hstep
            repeat (first | ((with_reducible refine AWp.ofC ?_ ?_); (focus exact rfl); simp only [go_sem]) | ((with_reducible refine an ?_ ?_); focus exact Au))
            exact ⟨_, List.Sublist.refl _, _, by omega, q + 1, c, zs, rfl, by omega, by omega, hstep.symm, by omega, hz, rfl, rfl⟩
        · have hn : k + q = xs.length := by omega
          have hcl2 : compL xs = c := by unfold compL; rw [← hn, hc]
          have hcx : c.length ≤ xs.length := by omega
          repeat (first | ((with_reducible refine AWp.ofC ?_ ?_); (focus exact rfl); simp only [go_sem]) | ((with_reducible refine an ?_ ?_); focus exact Au))
          refine ret_own ?_
          simp only [go_sem]
          refine ⟨List.replicate (xs.length - c.length) anil, cap, by rw [hcl2], ?_⟩
          rw [hcl2, List.length_replicate, show c.length + (xs.length - c.length) = zs.length by omega, List.drop_length, List.map_nil, List.append_nil, hz, List.take_left]
      · repeat (first | ((with_reducible refine AWp.ofC ?_ ?_); (focus exact rfl); simp only [go_sem]) | ((with_reducible refine an ?_ ?_); focus exact Au))
        refine ⟨_, List.Sublist.refl _, _, ?_, k + 1, rfl, by omega, by omega, rfl, rfl, fun i h0 hi => ?_⟩
        · omega
        · by_cases e : i = k
          · subst e; rw [List.getElem?_eq_getElem hk, List.getElem?_eq_getElem hk1]; exact fun e => h2 (Option.some.inj e)
          · exact hI i h0 (by omega)
    · repeat (first | ((with_reducible refine AWp.ofC ?_ ?_); (focus exact rfl); simp only [go_sem]) | ((with_reducible refine an ?_ ?_); focus exact Au))
      refine ret_own ?_
      simp only [go_sem]
      have e : compL xs = xs := by
        unfold compL
        rw [compN_all (Nat.le_refl _) (fun i h0 hi => hI i h0 (by omega)), List.take_length]
      exact ⟨[], cap, by rw [e], by rw [e, List.append_nil]⟩
end Go.AL
end
section
/- The reference of layer 12: equal traces. No condition. -/
namespace Go.AL
open Go Go.RowKit
set_option maxRecDepth 4000
end Go.AL
end
section
/- The package prune: Drop. No condition. -/
namespace Go.AL
open Go Go.RowKit
set_option maxRecDepth 4000
/-! ### Sets of numbers, as maps in the memory -/
def intV (x : Int) : Value := Value.int .i64 x
def aISet (s : List Int) : ABlk := .amap (s.map intV) (s.map fun _ => ab true)
theorem mfind_iset (y : Int) (s : List Int) : (mfind (intV y) (s.map intV)).isSome = decide (y ∈ s) ∧ ∀ i, mfind (intV y) (s.map intV) = some i → i < s.length := by
  induction s with
  | nil => exact ⟨by simp [mfind], fun i h => by simp [mfind] at h⟩
  | cons x s ih =>
    have hk : keyB (intV y) (intV x) = decide (y = x) := rfl
    simp only [List.map_cons, mfind, hk, decide_eq_true_eq]
    by_cases h : y = x
    · rw [if_pos h]; exact ⟨by simp [h], fun i hi => by cases hi; simp⟩
    · rw [if_neg h]
      cases hf : mfind (intV y) (s.map intV) with
      | none => rw [hf] at ih; exact ⟨by simp [h]; simpa using ih.1, fun i hi => by cases hi⟩
      | some k => rw [hf] at ih; exact ⟨by simp [h]; simpa using ih.1, fun i hi => by cases hi; simpa using ih.2 k rfl⟩
def ins (s : List Int) (y : Int) : List Int := if y ∈ s then s else s ++ [y]
theorem fits_int (y : Int) : (KK.sc .int).fits (intV y) = true := by simp [KK.fits, intV, SK.vfits]
theorem fits_iset (s : List Int) : ((s.map intV).all (KK.sc .int).fits) = true := by
  simp only [List.all_map, List.all_eq_true]; intro x _; exact fits_int x
/-! ### What Drop gives -/
def sentP (x : Pr) (n : Nat) (m : Int) : Bool := (x.evs.take n).any fun e => decide (e.kind = 2) && decide (e.msg = m)
def sentB (ps : List Pr) (c : List Int) (m : Int) : Bool := (ps.zip c).any fun x => sentP x.1 x.2.toNat m
def dropEv (S : Int → Bool) (e : Ev) : Ev := if e.kind = 3 ∧ S e.msg = true then { e with kind := 1, peer := 0, msg := 0 } else e
def dropP (S : Int → Bool) (x : Pr) (n : Nat) : Pr := ⟨x.name, (x.vars.map (·.1)).zip (stateAt x n), (x.evs.drop n).map (dropEv S)⟩
def dropS (S : Int → Bool) (ps : List Pr) (c : List Int) : List Pr := (ps.zip c).map fun x => dropP S x.1 x.2.toNat
def dropF (ps : List Pr) (c : List Int) : List Pr := dropS (sentB ps c) ps c
noncomputable def aDrop (ps : List Pr) (c : List Int) : AV := if givenF ps [c] [] ≠ 0 then .tup [aTr [], ai (givenF ps [c] [])] else .tup [aTr (dropF ps c), ai 0]
end Go.AL
end
section
/- Values by the latest assignment; which receives lose their message. No condition. -/
namespace Go.AL
open Go Go.RowKit
set_option maxRecDepth 4000
/-- No variable is assigned twice in an event. -/
def AsgDis (x : Pr) : Prop := ∀ e ∈ x.evs, ∀ (i j : Nat) (hi : i < e.asg.length) (hj : j < e.asg.length), i < j → e.asg[i].1 ≠ e.asg[j].1
/-- The sender of a message is the process that the receive names. -/
theorem recv_peer {ps : List Pr} (hm : msgF ps = none) {p : Nat} (hp : p < ps.length) {i : Nat} (hi : i < ps[p].evs.length) (hk : ps[p].evs[i].kind = 3) :
    ∃ (hq : ps[p].evs[i].peer.toNat < ps.length) (j : Nat) (hj : j < ps[ps[p].evs[i].peer.toNat].evs.length), sndr ps ps[p].evs[i].msg = ((ps[p].evs[i].peer.toNat : Int), (j : Int) + 1) ∧ ps[ps[p].evs[i].peer.toNat].evs[j].kind = 2 ∧ ps[ps[p].evs[i].peer.toNat].evs[j].msg = ps[p].evs[i].msg := by
  have hev := evIds_get hp hi
  have hlt : off ps p + i < (evIds ps).length := (List.getElem?_eq_some_iff.1 hev).1
  have hpz : pairF ps (off ps p + i) = 0 := by
    unfold msgF at hm
    split at hm
    · cases hm
    · rename_i hn
      rw [List.find?_eq_none] at hn
      simpa using hn _ (List.mem_range.2 hlt)
  unfold pairF at hpz
  rw [hev] at hpz
  simp only at hpz
  rw [if_neg (by omega), if_pos hk] at hpz
  split at hpz
  · cases hpz
  · split at hpz
    · cases hpz
    · rename_i hs
      have hs : sendsB ps ps[p].evs[i].peer ps[p].evs[i].msg (p : Int) = true := by simpa using hs
      unfold sendsB at hs
      split at hs
      · rename_i x hx
        obtain ⟨hq, e⟩ := List.getElem?_eq_some_iff.1 hx
        subst e
        obtain ⟨e, he, h1⟩ := List.any_eq_true.1 hs
        obtain ⟨j, hj, rfl⟩ := List.getElem_of_mem he
        simp only [Bool.and_eq_true, decide_eq_true_iff] at h1
        refine ⟨hq, j, hj, ?_, h1.1.1, h1.1.2⟩
        have := pair_unique hm hq hj (.inl h1.1.1)
        rw [h1.1.1, h1.1.2] at this
        exact this
      · cases hs
end Go.AL
end
section
/- The references of the layers 12 and 25: cuts, and the faults of a cut. No condition. -/
namespace Go.AL
open Go Go.RowKit
set_option maxRecDepth 4000
end Go.AL
end
section
/- Predicates as trees; which are well-formed. No condition. -/
namespace Go.AL
open Go Go.RowKit
set_option maxRecDepth 4000
inductive Pd where
  | mk (kind n proc peer : Int) (name : ByteArray) (l : List Pd)
def Pd.l : Pd → List Pd | .mk _ _ _ _ _ l => l
def Pd.kind : Pd → Int | .mk k _ _ _ _ _ => k
mutual
def aPd : Pd → AV
  | .mk k n p q s l => .agg [ai k, ai n, ai p, ai q, astr s, .sl 6 (aPdL l)]
def aPdL : List Pd → List AV
  | [] => []
  | x :: r => aPd x :: aPdL r
end
theorem aPdL_map : ∀ l : List Pd, aPdL l = l.map aPd
  | [] => by rw [aPdL]; rfl
  | x :: r => by rw [aPdL, aPdL_map r]; rfl
@[go_sem] theorem aPd_mk (k n p q : Int) (s : ByteArray) (l : List Pd) : aPd (.mk k n p q s l) = .agg [ai k, ai n, ai p, ai q, astr s, .sl 6 (l.map aPd)] := by rw [aPd, aPdL_map]
theorem Pd.ind {P : Pd → Prop} (h : ∀ k n p q s l, (∀ x ∈ l, P x) → P (.mk k n p q s l)) : ∀ t, P t
  | .mk k n p q s l => h k n p q s l fun x _hx => Pd.ind h x
termination_by t => SizeOf.sizeOf t
decreasing_by have := List.sizeOf_lt_of_mem _hx; simp; omega
/-! ### Sizes -/
mutual
def szF : Pd → Nat
  | .mk _ _ _ _ _ l => szL l + 1
def szL : List Pd → Nat
  | [] => 0
  | x :: r => szF x + szL r
end
mutual
def dpF : Pd → Nat
  | .mk _ _ _ _ _ l => dpL l + 1
def dpL : List Pd → Nat
  | [] => 0
  | x :: r => max (dpF x) (dpL r)
end
/-- What the reference counts: the size, or the number behind the limit. -/
def cntF (s : Nat) (lim : Int) : Int := if (s : Int) ≤ lim then s else lim + 1
def capF (d : Nat) (m : Int) : Int := if (d : Int) ≤ m then d else m + 1
/-! ### Nodes -/
def partsF (k : Int) : Int := if ((1 ≤ k ∧ k ≤ 4) ∨ k = 13) ∨ k = 14 then 0 else if (k = 5 ∨ k = 15) ∨ (18 ≤ k ∧ k ≤ 21) then 1 else if ((6 ≤ k ∧ k ≤ 12) ∨ k = 16) ∨ k = 17 then 2 else -1
mutual
def allB (f : Pd → Bool) : Pd → Bool
  | .mk k n p q s l => f (.mk k n p q s l) && allL f l
def allL (f : Pd → Bool) : List Pd → Bool
  | [] => true
  | x :: r => allB f x && allL f r
end
def numB (k n : Int) : Bool := if k = 1 then decide (0 ≤ n ∧ n ≤ 1125899906842624) else decide (n = 0)
def nameB (k p q : Int) (s : ByteArray) : Bool := decide (2 ≤ k ∧ k ≤ 4) || decide (p = 0 ∧ q = 0 ∧ s = ByteArray.empty)
def locB : Pd → Bool
  | .mk k n p q s l => decide (partsF k = l.length) && numB k n && nameB k p q s
def formedB (t : Pd) : Bool := decide (szF t ≤ 200) && decide (dpF t ≤ 20) && allB locB t
end Go.AL
end
section
/- What the program says of trees: which are well-formed, which have a type. No condition. -/
namespace Go.AL
open Go Go.RowKit
set_option maxRecDepth 4000
/-! ### Lists of trees, walked with a state -/
def findS {S : Type} (step : Pd → S → Bool × S) : List Pd → S → Option Nat × S
  | [], s => (none, s)
  | x :: r, s => if (step x s).1 then (some 0, (step x s).2) else ((findS step r (step x s).2).1.map (· + 1), (findS step r (step x s).2).2)
def idxA (o : Option Nat) : Int := match o with | some i => i | none => -1
/-! ### Types -/
def resF (k : Int) : Int := if k ≤ 8 then 1 else 2
def needF (k : Int) : Int := if k ≤ 12 then 1 else 2
/-- The parts of a node have the type that they need. -/
def tyNe (k m : Int) : Bool := decide (¬ resF m = needF k)
def typB : Pd → Bool
  | .mk k _ _ _ _ l => !l.any fun x => tyNe k x.kind
def typedB (t : Pd) : Bool := allB typB t
/-! ### Well-formed trees -/
mutual
def walkF : Pd → Int → Int → Bool × Int
  | .mk k n p q s l, d, c => if c - 1 < 0 ∨ 20 < d ∨ locB (.mk k n p q s l) = false then (false, c - 1) else walkL l (d + 1) (c - 1)
def walkL : List Pd → Int → Int → Bool × Int
  | [], _, c => (true, c)
  | x :: r, d, c => if (walkF x d c).1 then walkL r d (walkF x d c).2 else (false, (walkF x d c).2)
end
def stepW (d : Int) (x : Pd) (c : Int) : Bool × Int := (!(walkF x d c).1, (walkF x d c).2)
end Go.AL
end
section
/- Names in trees: what is resolved; variables by name. No condition. -/
namespace Go.AL
open Go Go.RowKit
set_option maxRecDepth 4000
def nmB (s : ByteArray) (v : ByteArray × Int) : Bool := decide (v.1 = s)
def varIx (vs : List (ByteArray × Int)) (s : ByteArray) : Int := match vs.findIdx? (nmB s) with | some i => i | none => -1
def isPB (n : Nat) (p : Int) : Bool := decide (0 ≤ p) && decide (p < n)
def knownB (ps : List Pr) (p : Int) (s : ByteArray) : Bool := match ps[p.toNat]? with | some x => x.vars.any (nmB s) | none => false
def resB (ps : List Pr) : Pd → Bool
  | .mk k _ p q s _ => if k = 2 then isPB ps.length p && decide (q = 0) && knownB ps p s else if k = 3 then isPB ps.length p && decide (q = 0) && decide (s = ByteArray.empty) else
    if k = 4 then isPB ps.length p && isPB ps.length q && !decide (p = q) && decide (s = ByteArray.empty) else true
/-! ### The reference -/
def varX (ps : List Pr) (p : Int) (s : ByteArray) : Int := match ps[p.toNat]? with | some x => varIx x.vars s | none => -1
end Go.AL
end
section
/- A trace without a cut: it is valid, its states are those of the trace. Plain laws. No condition. -/
namespace Go.AL
open Go Go.RowKit
set_option maxRecDepth 4000
/-! ### Names -/
/-! ### Values are small -/
theorem fstF_zero {f : Nat → Int} {n : Nat} (h : fstF f n = 0) : ∀ i, i < n → f i = 0 := by
  intro i
  induction i using Nat.strongRecOn with
  | _ i ih =>
    intro hi
    by_cases h0 : f i = 0
    · exact h0
    · rw [fstF_hit hi (fun j hj => ih j hj (by omega)) h0] at h; exact h
def smallV (y : Int) : Prop := -1073741824 ≤ y ∧ y ≤ 1073741824
theorem procF_of_valid {ps : List Pr} (h : validF ps = true) {p : Nat} (hp : p < ps.length) : procF ps p = 0 := by
  have h0 := (valid_parts h).1
  unfold procFirst at h0
  rw [Option.map_eq_none_iff, List.find?_eq_none] at h0
  simpa using h0 p (List.mem_range.2 hp)
theorem procF_parts {ps : List Pr} {p : Nat} (hp : p < ps.length) : procF ps p = 0 ↔ (nameOk ps[p].name = true ∧ (ps.take p).any (fun y => decide (y.name = ps[p].name)) = false) ∧ ps[p].vars.length ≤ 8 ∧ (∀ i, i < ps[p].vars.length → varF ps[p].vars i = 0) ∧ ps[p].evs.length ≤ 64 := by
  have e : procF ps p = if !nameOk ps[p].name || (ps.take p).any (fun y => decide (y.name = ps[p].name)) then 13 else if 8 < ps[p].vars.length then 5 else
      if fstF (varF ps[p].vars) ps[p].vars.length ≠ 0 then fstF (varF ps[p].vars) ps[p].vars.length else if 64 < ps[p].evs.length then 5 else 0 := by
    unfold procF; simp only [List.getElem?_eq_getElem hp]
  rw [e]
  constructor
  · intro h
    split at h
    · cases h
    · rename_i h1
      split at h
      · cases h
      · split at h
        · rename_i h3; exact absurd h h3
        · rename_i h3
          split at h
          · cases h
          · simp only [Bool.or_eq_true, Bool.not_eq_true', not_or, Bool.not_eq_true] at h1
            exact ⟨⟨by simpa using h1.1, h1.2⟩, by omega, fstF_zero (by simpa using h3), by omega⟩
  · rintro ⟨⟨h1, h2⟩, h3, h4, h5⟩
    rw [if_neg (by rw [h1, h2]; decide), if_neg (by omega), if_neg (by rw [fstF_none h4]; decide), if_neg (by omega)]
theorem evF_parts {ps : List Pr} {p : Nat} (hp : p < ps.length) {i : Nat} (hi : i < ps[p].evs.length) : evF ps p i = 0 ↔ formedI ps.length p ps[p].evs[i] = true ∧ (0 ≤ ps[p].evs[i].time ∧ ps[p].evs[i].time ≤ 1099511627776 ∧ lastT ps[p].evs i ≤ ps[p].evs[i].time) ∧
    ps[p].evs[i].asg.length ≤ 8 ∧ ∀ k, k < ps[p].evs[i].asg.length → asgF ps[p].vars.length ps[p].evs[i].asg k = 0 := by
  have e : evF ps p i = if !formedI ps.length p ps[p].evs[i] then 3 else if !inI ps[p].evs[i].time 0 1099511627776 || decide (ps[p].evs[i].time < lastT ps[p].evs i) then 11 else if 8 < ps[p].evs[i].asg.length then 5 else fstF (asgF ps[p].vars.length ps[p].evs[i].asg) ps[p].evs[i].asg.length := by
    unfold evF; simp only [List.getElem?_eq_getElem hp, List.getElem?_eq_getElem hi]
  rw [e]
  constructor
  · intro h
    split at h
    · cases h
    · rename_i h1
      split at h
      · cases h
      · rename_i h2
        split at h
        · cases h
        · simp only [inI, Bool.or_eq_true, Bool.not_eq_true', not_or, Bool.not_eq_false, Bool.and_eq_true, decide_eq_true_eq] at h2
          exact ⟨by simpa using h1, ⟨h2.1.1, h2.1.2, by omega⟩, by omega, fstF_zero h⟩
  · rintro ⟨h1, ⟨h2, h3, h4⟩, h5, h6⟩
    rw [if_neg (by rw [h1]; decide), if_neg (by simp only [inI, Bool.or_eq_true, Bool.not_eq_true', not_or, Bool.not_eq_false, Bool.and_eq_true, decide_eq_true_eq]; omega), if_neg (by omega), fstF_none h6]
theorem evF_of_valid {ps : List Pr} (h : validF ps = true) {p : Nat} (hp : p < ps.length) {i : Nat} (hi : i < ps[p].evs.length) : evF ps p i = 0 := evFirst_get (valid_parts h).2.1 hp hi
theorem valid_cyc {ps : List Pr} (h : validF ps = true) : cycF ps = none := by
  obtain ⟨h1, h2, h3⟩ := valid_parts h
  unfold validF faultF at h
  rw [h1, h2, h3] at h
  simp only [decide_eq_true_eq] at h
  split at h
  · cases h
  · split at h
    · cases h
    · assumption
/-! ### The dropped trace is valid -/
section
variable {ps : List Pr} {c : List Int}
/-- The event of the trace that an event of the dropped trace was. -/
def shE (c : List Int) (x : Eid) : Eid := (x.1, x.2 + c.getD x.1.toNat 0)
end
end Go.AL
end
section
/- Bounds of expressions, and their values: plain laws. No condition. -/
namespace Go.AL
open Go Go.RowKit
set_option maxRecDepth 4000
/-! ### The least and the greatest number of a list -/
def mn2 (a b : Int) : Int := if b < a then b else a
def mx2 (a b : Int) : Int := if a < b then b else a
def minL : List Int → Int | [] => 0 | a :: r => r.foldl mn2 a
def maxL : List Int → Int | [] => 0 | a :: r => r.foldl mx2 a
/-! ### The values of a variable -/
def valsF (x : Pr) (v : Nat) : List Int := (List.range (x.evs.length + 1)).map fun k => (stateAt x k).getD v 0
def varLo (ps : List Pr) (p : Int) (s : ByteArray) : Int := match ps[p.toNat]? with | some x => minL (valsF x (varIx x.vars s).toNat) | none => 0
def varHi (ps : List Pr) (p : Int) (s : ByteArray) : Int := match ps[p.toNat]? with | some x => maxL (valsF x (varIx x.vars s).toNat) | none => 0
def evN (ps : List Pr) (p : Int) : Int := match ps[p.toNat]? with | some x => x.evs.length | none => 0
def sentTo (q : Int) (e : Ev) : Bool := decide (e.kind = 2) && decide (e.peer = q)
def msgN (ps : List Pr) (p q : Int) : Int := match ps[p.toNat]? with | some x => (x.evs.countP (sentTo q) : Int) | none => 0
/-! ### Bounds -/
def tooB (a b : Int) : Bool := decide (a < -1125899906842624) || decide (1125899906842624 < b)
def absF (a : Int) : Int := mx2 a (-a)
def timesF (a b : Int) : Int := if a = 0 ∨ b = 0 then 0 else if 1125899906842624 / absF b < absF a then (if (decide (a < 0) != decide (b < 0)) = true then -1125899906842625 else 1125899906842625) else a * b
abbrev Bd := Int × Int × Bool
def bdL (ps : List Pr) (k n p q : Int) (s : ByteArray) : Int × Int := if k = 1 then (n, n) else if k = 3 then (0, evN ps p) else if k = 4 then (0, msgN ps p q) else (varLo ps p s, varHi ps p s)
def bd2 (k : Int) (a b : Bd) : Int × Int := if k = 5 then (-a.2.1, -a.1) else if k = 6 then (a.1 + b.1, a.2.1 + b.2.1) else if k = 7 then (a.1 - b.2.1, a.2.1 - b.1) else
  (minL [timesF a.1 b.1, timesF a.1 b.2.1, timesF a.2.1 b.1, timesF a.2.1 b.2.1], maxL [timesF a.1 b.1, timesF a.1 b.2.1, timesF a.2.1 b.1, timesF a.2.1 b.2.1])
def bdG (i : Int × Int) : Bd := (i.1, i.2, !tooB i.1 i.2)
def bdN (ps : List Pr) (k n p q : Int) (s : ByteArray) : List Bd → Bd
  | [] => bdG (bdL ps k n p q s)
  | [a] => if a.2.2 = true then bdG (bd2 k a a) else (0, 0, false)
  | a :: b :: _ => if a.2.2 = true ∧ b.2.2 = true then bdG (bd2 k a b) else (0, 0, false)
mutual
def intF (ps : List Pr) : Pd → Bd
  | .mk k n p q s l => bdN ps k n p q s (intL ps l)
def intL (ps : List Pr) : List Pd → List Bd
  | [] => []
  | x :: r => intF ps x :: intL ps r
end
mutual
def fitB (ps : List Pr) : Pd → Bool
  | .mk k n p q s l => if k ≤ 8 then (intF ps (.mk k n p q s l)).2.2 else fitL ps l
def fitL (ps : List Pr) : List Pd → Bool
  | [] => true
  | x :: r => fitB ps x && fitL ps r
end
/-- What is needed of a tree that has bounds. -/
def okT (ps : List Pr) (t : Pd) : Bool := allB locB t && allB (resB ps) t && allB typB t
/-! ### Values -/
structure Obs where
  var : Int → ByteArray → Int
  cnt : Int → Int
  chn : Int → Int → Int
def valN (o : Obs) (k n p q : Int) (s : ByteArray) : List Int → Int
  | [] => if k = 1 then n else if k = 2 then o.var p s else if k = 3 then o.cnt p else o.chn p q
  | [a] => -a
  | a :: b :: _ => if k = 6 then a + b else if k = 7 then a - b else a * b
mutual
def valF (o : Obs) : Pd → Int
  | .mk k n p q s l => valN o k n p q s (valL o l)
def valL (o : Obs) : List Pd → List Int
  | [] => []
  | x :: r => valF o x :: valL o r
end
def obsB (ps : List Pr) (o : Obs) : Pd → Prop
  | .mk k _ p q s _ => (k = 2 → varLo ps p s ≤ o.var p s ∧ o.var p s ≤ varHi ps p s) ∧ (k = 3 → 0 ≤ o.cnt p ∧ o.cnt p ≤ evN ps p) ∧ (k = 4 → 0 ≤ o.chn p q ∧ o.chn p q ≤ msgN ps p q)
mutual
def AllP (f : Pd → Prop) : Pd → Prop
  | .mk k n p q s l => f (.mk k n p q s l) ∧ AllPL f l
def AllPL (f : Pd → Prop) : List Pd → Prop
  | [] => True
  | x :: r => AllP f x ∧ AllPL f r
end
end Go.AL
end
section
/- The truth of predicates, which trees are checked, and which are local: plain laws. No condition. -/
namespace Go.AL
open Go Go.RowKit
set_option maxRecDepth 4000
def truN (k : Int) (v : List Int) (b : List Bool) : Bool :=
  if k = 9 then decide (v.getD 0 0 = v.getD 1 0) else if k = 10 then !decide (v.getD 0 0 = v.getD 1 0) else if k = 11 then decide (v.getD 0 0 < v.getD 1 0) else if k = 12 then decide (v.getD 0 0 ≤ v.getD 1 0) else
  if k = 13 then true else if k = 14 then false else if k = 15 then !b.getD 0 false else if k = 16 then b.getD 0 false && b.getD 1 false else b.getD 0 false || b.getD 1 false
mutual
def truF (o : Obs) : Pd → Bool
  | .mk k _ _ _ _ l => truN k (valL o l) (truL o l)
def truL (o : Obs) : List Pd → List Bool
  | [] => []
  | x :: r => truF o x :: truL o r
end
/-! ### What depends on what -/
/-- Two observers agree on a node. -/
def agrB (o o' : Obs) : Pd → Prop
  | .mk k _ p q s _ => (k = 2 → o.var p s = o'.var p s) ∧ (k = 3 → o.cnt p = o'.cnt p) ∧ (k = 4 → o.chn p q = o'.chn p q)
/-- Temporal nodes. -/
def tempB : Pd → Bool | .mk k _ _ _ _ _ => decide (18 ≤ k ∧ k ≤ 21)
def ntmB (x : Pd) : Bool := !tempB x
/-! ### Faults of trees -/
noncomputable def checkF (ps : List Pr) (t : Pd) : Int := if (validF ps && formedB t) = false then 1 else if allB (resB ps) t = false then 13 else if typedB t = false then 14 else if fitB ps t = false then 9 else 0
/-- A node that is local to a process. -/
def lclB (pr : Int) : Pd → Bool
  | .mk k _ p _ _ _ => if k = 4 ∨ (18 ≤ k ∧ k ≤ 21) then false else if k = 2 ∨ k = 3 then decide (p = pr) else true
noncomputable def lclF (ps : List Pr) (pr k : Int) (t : Pd) : Int :=
  if checkF ps t ≠ 0 then checkF ps t else if ¬ (0 ≤ pr ∧ pr < ps.length ∧ 0 ≤ k ∧ k ≤ evN ps pr) then 2 else if t.kind ≤ 8 then 14 else if allB (lclB pr) t = false then 15 else 0
/-- What is seen at a cut, and in a state. -/
def cutO (ps : List Pr) (c : List Int) (ch : Int → Int → Int) : Obs := ⟨fun p s => match ps[p.toNat]? with | some x => (stateAt x (c.getD p.toNat 0).toNat).getD (varIx x.vars s).toNat 0 | none => 0, fun p => c.getD p.toNat 0, ch⟩
def stC (n p : Nat) (k : Int) : List Int := (List.replicate n 0).set p k
def stO (ps : List Pr) (p : Nat) (k : Int) : Obs := cutO ps (stC ps.length p k) fun _ _ => 0
def lclT (ps : List Pr) (p : Nat) (t : Pd) (k : Int) : Bool := truF (stO ps p k) t
def truthsF (ps : List Pr) (p : Nat) (t : Pd) : List Bool := (List.range ((evN ps p).toNat + 1)).map fun (k : Nat) => lclT ps p t k
end Go.AL
end
section
/- Bounds of expressions: the program's and the reference's. No condition. -/
namespace Go.AL
open Go Go.RowKit
set_option maxRecDepth 4000
def aIv (a b : Int) : AV := .agg [ai a, ai b]
def aBd (x : Bd) : AV := .tup [aIv x.1 x.2.1, ab x.2.2]
/-! ### Products -/
/-! ### Lists of numbers -/
/-! ### Messages -/
end Go.AL
end
section
/- The program's values of expressions and truth of predicates. No condition. -/
namespace Go.AL
open Go Go.RowKit
set_option maxRecDepth 4000
def aView (ps : List Pr) (c : List Int) (V : List (List Int)) : AV := .agg [aPrs ps, aInts c, aRows V]
end Go.AL
end
section
/- The least and the greatest value of a variable. No condition. -/
namespace Go.AL
open Go Go.RowKit
set_option maxRecDepth 4000
end Go.AL
end
section
/- Bounds of expressions: the walks. No condition. -/
namespace Go.AL
open Go Go.RowKit
set_option maxRecDepth 4000
end Go.AL
end
section
/- The reference's values of states. No condition. -/
namespace Go.AL
open Go Go.RowKit
set_option maxRecDepth 4000
end Go.AL
end
section
/- Bounds of expressions: the reference's walks. No condition. -/
namespace Go.AL
open Go Go.RowKit
set_option maxRecDepth 4000
def aBd3 (x : Bd) : AV := .tup [ai x.1, ai x.2.1, ab x.2.2]
end Go.AL
end
section
/- Which trees are checked: the program's Check and the reference's. No condition. -/
namespace Go.AL
open Go Go.RowKit
set_option maxRecDepth 4000
/-! ### The reference -/
end Go.AL
end
section
/- The truth of predicates: the program. No condition. -/
namespace Go.AL
open Go Go.RowKit
set_option maxRecDepth 4000
end Go.AL
end
section
/- The truth of a predicate at a cut: evaluate.Bool. No condition. -/
namespace Go.AL
open Go Go.RowKit
set_option maxRecDepth 4000
/-! ### What is seen at a cut -/
noncomputable def atE (ps : List Pr) (c : List Int) (t : Pd) (w : Int) : Int :=
  if c.length ≠ ps.length then 1 else if checkF ps t ≠ 0 then checkF ps t else if givenF ps [c] [] ≠ 0 then givenF ps [c] [] else if resF t.kind ≠ w then 14 else if allB ntmB t = false then 15 else 0
open Classical in
noncomputable def atV (ps : List Pr) (c : List Int) (t : Pd) : AV := if c.length ≠ ps.length ∨ checkF ps t ≠ 0 ∨ givenF ps [c] [] ≠ 0 then aView [] [] [] else aView ps c (valuesAt ps c)
/-! ### Trees without channels -/
def nchB : Pd → Bool | .mk k _ _ _ _ _ => decide (k ≠ 4)
def andB (f g : Pd → Bool) (x : Pd) : Bool := f x && g x
noncomputable def aBool (ps : List Pr) (c : List Int) (t : Pd) : AV := .tup [ab (decide (atE ps c t 2 = 0) && truF (cutO ps c fun _ _ => 0) t), ai (atE ps c t 2)]
end Go.AL
end
section
/- The join and the meet of two cuts. No condition. -/
namespace Go.AL
open Go Go.RowKit
set_option maxRecDepth 4000
/-- A row that is filled from the front. -/
def fillZ (l : List Int) (n i : Nat) : List Int := l.take i ++ List.replicate (n - i) 0
def two (_l a b : List Int) (g : Int → Int → Int) : List Int := List.zipWith g a b
noncomputable def aComb (ps : List Pr) (a b : List Int) (g : Int → Int → Int) : AV := if givenF ps [a, b] [] ≠ 0 then .tup [.sl 1 [], ai (givenF ps [a, b] [])] else .tup [aInts (List.zipWith g a b), ai 0]
theorem givenL {ps : List Pr} {l : List (List Int)} : givenF ps l [] = 0 ↔ (validF ps = true ∧ ∀ c ∈ l, c.length = ps.length) ∧ (∀ c ∈ l, inRangeF ps c = true) ∧ ∀ c ∈ l, closedF ps c = true := by
  have h1 : sizedF ps l = true ↔ validF ps = true ∧ ∀ c ∈ l, c.length = ps.length := by
    refine ⟨sizedF_inv, fun h => ?_⟩
    unfold sizedF
    rw [h.1, Bool.true_and, Bool.not_eq_true', List.any_eq_false]
    intro c hc
    rw [decide_eq_true (h.2 c hc)]; decide
  have h2 := List.all_eq_true (l := l) (p := inRangeF ps)
  have h3 := List.all_eq_true (l := l) (p := closedF ps)
  rw [← h1, ← h2, ← h3]
  unfold givenF
  cases sizedF ps l <;> cases l.all (inRangeF ps) <;> cases l.all (closedF ps) <;> simp
end Go.AL
end
section
/- Rewritten trees. No condition. -/
namespace Go.AL
open Go Go.RowKit
set_option maxRecDepth 4000
/-! ### Counts of processes that there are -/
def covB (m : Int) : Pd → Bool
  | .mk k _ p _ _ _ => !(decide (k = 3) && (decide (p < 0) || decide (m ≤ p)))
/-! ### Rewritten trees -/
mutual
def rwF (c : List Int) : Pd → Pd
  | .mk k n p q s l => if k = 3 then .mk 6 0 0 0 ByteArray.empty [.mk k n p q s l, .mk 1 (c.getD p.toNat 0) 0 0 ByteArray.empty []] else .mk k n p q s (rwL c l)
def rwL (c : List Int) : List Pd → List Pd
  | [] => []
  | x :: r => rwF c x :: rwL c r
end
def aPd0 : AV := .agg [ai 0, ai 0, ai 0, ai 0, astr ByteArray.empty, anil]
end Go.AL
end
section
/- Trees rewritten and counts shifted: what is returned. No condition. -/
namespace Go.AL
open Go Go.RowKit
set_option maxRecDepth 4000
def pd0 : Pd := .mk 0 0 0 0 ByteArray.empty []
def rwRes (t : Pd) (c : List Int) : Pd × Int :=
  if (!formedB t || !c.all inB) = true then (pd0, 1) else if allB (covB c.length) t = false then (pd0, 2) else if formedB (rwF c t) = false then (pd0, 5) else (rwF c t, 0)
/-! ### Shifted counts -/
def shS (c d : List Int) : List Int := List.zipWith (· + ·) c d
def shiftR (c d : List Int) : List Int × Int :=
  if (!decide (c.length = d.length) || decide (8 < c.length)) = true then ([], 1) else if (!c.all inB || !d.all inB) = true then ([], 2) else if (shS c d).all inB = false then ([], 9) else (shS c d, 0)
def bigB (c d : List Int) (i : Nat) : Bool := ((shS c d).take i).any fun x => decide (64 < x)
end Go.AL
end
section
/- What a cut of the trace without a cut is, and what a rewritten tree says there. Plain laws. No condition. -/
namespace Go.AL
open Go Go.RowKit
set_option maxRecDepth 4000
theorem closed_iff {ps : List Pr} {c : List Int} : closedF ps c = true ↔ ∀ (p : Nat) (hp : p < ps.length) (i : Nat) (hi : i < ps[p].evs.length), ps[p].evs[i].kind = 3 → (i : Int) + 1 ≤ cAt c p → (sndr ps ps[p].evs[i].msg).2 ≤ cAt c (sndr ps ps[p].evs[i].msg).1 := by
  unfold closedF
  rw [Bool.not_eq_true', List.any_eq_false]
  constructor
  · intro h p hp i hi hk hc
    have := h _ (List.mem_of_getElem? (evIds_get hp hi))
    unfold badEv at this
    simp only [Bool.and_eq_true, decide_eq_true_eq, not_and] at this
    have := this ⟨hk, hc⟩
    unfold sndr
    omega
  · intro h x hx
    obtain ⟨k, hk⟩ := List.getElem?_of_mem hx
    obtain ⟨p, hp, i, hi, _, rfl⟩ := evIds_inv hk
    unfold badEv
    simp only [Bool.and_eq_true, decide_eq_true_eq, not_and]
    rintro ⟨h1, h2⟩
    have := h p hp i hi h1 h2
    unfold sndr at this
    omega
theorem inRange_iff {ps : List Pr} {c : List Int} (hc : c.length = ps.length) : inRangeF ps c = true ↔ ∀ (p : Nat) (hp : p < ps.length), 0 ≤ cAt c p ∧ cAt c p ≤ ps[p].evs.length := by
  constructor
  · intro h p hp
    obtain ⟨h1, h2⟩ := inRangeF_get h hc hp
    rw [cAt_nat (show p < c.length by omega)]
    exact ⟨h1, h2⟩
  · intro h
    unfold inRangeF
    rw [List.all_eq_true]
    intro p hp
    have hpc := List.mem_range.1 hp
    have hpp : p < ps.length := by omega
    have := h p hpp
    rw [cAt_nat hpc] at this
    unfold cntOk
    simp only [List.getElem?_eq_getElem hpc, List.getElem?_eq_getElem hpp, Bool.and_eq_true, decide_eq_true_eq]
    exact this
def joinL (c d : List Int) : List Int := List.zipWith (fun x y => if x < y then y else x) c d
def subL (c d : List Int) : List Int := List.zipWith (fun x y => x - y) c d
section
variable {ps : List Pr} {c j : List Int}
end
end Go.AL
end
section
/- The least closed counts above counts: the sends that are missing are added one by one. Plain laws. No condition. -/
namespace Go.AL
open Go Go.RowKit
set_option maxRecDepth 4000
def closeN (ps : List Pr) : Nat → List Int → List Int
  | 0, c => c
  | n + 1, c => match missF ps c with
    | none => c
    | some x => closeN ps n (c.set x.1.1.toNat x.1.2)
def closeF (ps : List Pr) (c : List Int) : List Int := closeN ps (off ps ps.length) c
theorem sumN_set : ∀ (l : List Nat) (i x : Nat) (h : i < l.length), (l.set i x).sum + l[i] = l.sum + x
  | a :: r, 0, x, _ => by simp only [List.set_cons_zero, List.sum_cons, List.getElem_cons_zero]; omega
  | a :: r, i + 1, x, h => by
    have := sumN_set r i x (by simpa using h)
    simp only [List.set_cons_succ, List.sum_cons, List.getElem_cons_succ]; omega
def totC (c : List Int) : Nat := (c.map Int.toNat).sum
theorem totC_set {c : List Int} {q : Nat} {x : Int} (hq : q < c.length) : totC (c.set q x) + (c[q]).toNat = totC c + x.toNat := by
  unfold totC
  rw [List.map_set]
  have := sumN_set (c.map Int.toNat) q x.toNat (by simpa using hq)
  simpa using this
theorem totC_le0 : ∀ (l : List Pr) (c : List Int), c.length = l.length → (∀ p (hp : p < l.length), c.getD p 0 ≤ l[p].evs.length) → totC c ≤ (l.map fun x => x.evs.length).sum
  | [], [], _, _ => Nat.le_refl _
  | x :: l, a :: c, hl, h => by
    have h0 := h 0 (by simp)
    have ht := totC_le0 l c (by simpa using hl) fun p hp => by
      have := h (p + 1) (by simpa using hp)
      simpa using this
    simp only [List.getElem_cons_zero, List.getD_cons_zero] at h0
    unfold totC at *
    simp only [List.map_cons, List.sum_cons]
    omega
theorem totC_le {ps : List Pr} {c : List Int} (hc : c.length = ps.length) (hr : inRangeF ps c = true) : totC c ≤ off ps ps.length := by
  unfold off
  rw [List.take_length]
  refine totC_le0 ps c hc fun p hp => ?_
  have := ((inRange_iff hc).1 hr p hp).2
  unfold cAt at this
  simpa using this
/-- What is missing is a send that the cut has not. -/
theorem miss_inv {ps : List Pr} (hv : validF ps = true) {c : List Int} (_hc : c.length = ps.length) {x : Eid × Eid} (h : missF ps c = some x) :
    ∃ (p : Nat) (_ : p < ps.length) (i : Nat) (_ : i < ps[p].evs.length) (q : Nat) (_ : q < ps.length) (j : Nat) (_ : j < ps[q].evs.length), ps[p].evs[i].kind = 3 ∧ (i : Int) + 1 ≤ cAt c p ∧ sndr ps ps[p].evs[i].msg = ((q : Int), (j : Int) + 1) ∧ x = (((q : Int), (j : Int) + 1), ((p : Int), (i : Int) + 1)) ∧ cAt c q < (j : Int) + 1 := by
  unfold missF at h
  rw [Option.map_eq_some_iff] at h
  obtain ⟨y, hy, rfl⟩ := h
  have hb := List.find?_some hy
  obtain ⟨k, hk⟩ := List.getElem?_of_mem (List.mem_of_find?_eq_some hy)
  obtain ⟨p, hp, i, hi, _, rfl⟩ := evIds_inv hk
  unfold badEv at hb
  simp only [Bool.and_eq_true, decide_eq_true_eq] at hb
  obtain ⟨⟨h1, h2⟩, h3⟩ := hb
  obtain ⟨hq, j, hj, e, _, _⟩ := recv_peer (valid_parts hv).2.2 hp hi h1
  have e' : findIn (evIds ps) 2 ps[p].evs[i].msg = ((ps[p].evs[i].peer.toNat : Int), (j : Int) + 1) := e
  rw [e'] at h3
  exact ⟨p, hp, i, hi, _, hq, j, hj, h1, h2, e, by rw [e'], h3⟩
theorem miss_next {ps : List Pr} (hv : validF ps = true) {c : List Int} (hc : c.length = ps.length) (hr : inRangeF ps c = true) {x : Eid × Eid} (h : missF ps c = some x) :
    (c.set x.1.1.toNat x.1.2).length = ps.length ∧ inRangeF ps (c.set x.1.1.toNat x.1.2) = true ∧ totC c < totC (c.set x.1.1.toNat x.1.2) := by
  obtain ⟨p, hp, i, hi, q, hq, j, hj, _, _, _, rfl, h1⟩ := miss_inv hv hc h
  have hl : (c.set q ((j : Int) + 1)).length = ps.length := by rw [List.length_set]; exact hc
  refine ⟨hl, ?_, ?_⟩
  · rw [Int.toNat_natCast, inRange_iff hl]
    intro r hr'
    rw [cAt_nat (show r < (c.set q ((j : Int) + 1)).length by omega), List.getElem_set]
    split
    · rename_i e; subst e; omega
    · have := (inRange_iff hc).1 hr r hr'
      rw [cAt_nat (show r < c.length by omega)] at this
      exact this
  · have := totC_set (c := c) (q := q) (x := (j : Int) + 1) (by omega)
    rw [cAt_nat (show q < c.length by omega)] at h1
    have h0 := ((inRange_iff hc).1 hr q hq).1
    rw [cAt_nat (show q < c.length by omega)] at h0
    simp only [Int.toNat_natCast]
    have h3 : ((j : Int) + 1).toNat = j + 1 := by omega
    rw [h3] at this
    omega
theorem closeN_more {ps : List Pr} (hv : validF ps = true) : ∀ (n : Nat) (c : List Int), c.length = ps.length → inRangeF ps c = true → off ps ps.length ≤ totC c + n → closeN ps (n + 1) c = closeN ps n c
  | 0, c, hc, hr, hn => by
    unfold closeN
    cases h : missF ps c with
    | none => rfl
    | some x =>
      obtain ⟨a1, a2, a3⟩ := miss_next hv hc hr h
      have := totC_le a1 a2
      omega
  | n + 1, c, hc, hr, hn => by
    rw [closeN]
    conv => rhs; rw [closeN]
    cases h : missF ps c with
    | none => rfl
    | some x =>
      obtain ⟨a1, a2, a3⟩ := miss_next hv hc hr h
      exact closeN_more hv n _ a1 a2 (by omega)
theorem closeN_of {ps : List Pr} (hv : validF ps = true) {c : List Int} (hc : c.length = ps.length) (hr : inRangeF ps c = true) {n : Nat} (h : off ps ps.length ≤ totC c + n) : ∀ k, closeN ps (n + k) c = closeN ps n c
  | 0 => rfl
  | k + 1 => by rw [← Nat.add_assoc, closeN_more hv (n + k) c hc hr (by omega), closeN_of hv hc hr h k]
theorem closeF_step {ps : List Pr} (hv : validF ps = true) {c : List Int} (hc : c.length = ps.length) (hr : inRangeF ps c = true) {x : Eid × Eid} (h : missF ps c = some x) : closeF ps c = closeF ps (c.set x.1.1.toNat x.1.2) := by
  obtain ⟨a1, a2, a3⟩ := miss_next hv hc hr h
  have hle := totC_le a1 a2
  unfold closeF
  obtain ⟨m, hm⟩ : ∃ m, off ps ps.length = m + 1 := ⟨off ps ps.length - 1, by omega⟩
  rw [hm]
  conv => lhs; rw [closeN]
  rw [h]
  exact (closeN_of hv a1 a2 (n := m) (by omega) 1).symm
theorem closeF_none {ps : List Pr} {c : List Int} (h : missF ps c = none) : closeF ps c = c := by
  unfold closeF
  cases off ps ps.length with
  | zero => rfl
  | succ n => rw [closeN, h]
/-- Induction along what is missing. -/
theorem miss_ind {ps : List Pr} (hv : validF ps = true) {M : List Int → Prop} (h0 : ∀ c, c.length = ps.length → inRangeF ps c = true → missF ps c = none → M c)
    (h1 : ∀ c, c.length = ps.length → inRangeF ps c = true → ∀ x, missF ps c = some x → M (c.set x.1.1.toNat x.1.2) → M c) : ∀ c, c.length = ps.length → inRangeF ps c = true → M c := by
  suffices H : ∀ n c, c.length = ps.length → inRangeF ps c = true → off ps ps.length - totC c = n → M c from fun c hc hr => H _ c hc hr rfl
  intro n
  induction n using Nat.strongRecOn with
  | _ n ih =>
    intro c hc hr hn
    cases h : missF ps c with
    | none => exact h0 c hc hr h
    | some x =>
      obtain ⟨a1, a2, a3⟩ := miss_next hv hc hr h
      have := totC_le a1 a2
      exact h1 c hc hr x h (ih _ (by omega) _ a1 a2 rfl)
theorem closeF_ok {ps : List Pr} (hv : validF ps = true) {c : List Int} (hc : c.length = ps.length) (hr : inRangeF ps c = true) : (closeF ps c).length = ps.length ∧ inRangeF ps (closeF ps c) = true ∧ missF ps (closeF ps c) = none := by
  refine miss_ind hv (M := fun c => (closeF ps c).length = ps.length ∧ inRangeF ps (closeF ps c) = true ∧ missF ps (closeF ps c) = none) (fun c hc hr h => ?_) (fun c hc hr x h hm => ?_) c hc hr
  · rw [closeF_none h]; exact ⟨hc, hr, h⟩
  · rw [closeF_step hv hc hr h]; exact hm
/-- It is the least closed one above the counts. -/
theorem closeF_ge {ps : List Pr} (hv : validF ps = true) {c : List Int} (hc : c.length = ps.length) (hr : inRangeF ps c = true) : ∀ p, p < ps.length → cAt c p ≤ cAt (closeF ps c) p := by
  refine miss_ind hv (M := fun c => ∀ p, p < ps.length → cAt c p ≤ cAt (closeF ps c) p) (fun c hc hr h p hp => ?_) (fun c hc hr x h hm p hp => ?_) c hc hr
  · rw [closeF_none h]; exact Int.le_refl _
  · rw [closeF_step hv hc hr h]
    refine Int.le_trans ?_ (hm p hp)
    obtain ⟨_, _, _, _, q, hq, j, hj, _, _, _, rfl, h1⟩ := miss_inv hv hc h
    rw [Int.toNat_natCast, cAt_nat (show p < (c.set q ((j : Int) + 1)).length by rw [List.length_set]; omega), List.getElem_set]
    split
    · rename_i e; subst e; omega
    · rw [cAt_nat (show p < c.length by omega)]; exact Int.le_refl _
theorem closeF_least {ps : List Pr} (hv : validF ps = true) {d : List Int} (_hd : d.length = ps.length) (hcl : closedF ps d = true) {c : List Int} (hc : c.length = ps.length) (hr : inRangeF ps c = true) :
    (∀ p, p < ps.length → cAt c p ≤ cAt d p) → ∀ p, p < ps.length → cAt (closeF ps c) p ≤ cAt d p := by
  refine miss_ind hv (M := fun c => (∀ p, p < ps.length → cAt c p ≤ cAt d p) → ∀ p, p < ps.length → cAt (closeF ps c) p ≤ cAt d p) (fun c hc hr h hle => ?_) (fun c hc hr x h hm hle => ?_) c hc hr
  · rw [closeF_none h]; exact hle
  · rw [closeF_step hv hc hr h]
    refine hm fun p hp => ?_
    obtain ⟨a, ha, i, hi, q, hq, j, hj, g1, g2, g3, rfl, h1⟩ := miss_inv hv hc h
    rw [Int.toNat_natCast, cAt_nat (show p < (c.set q ((j : Int) + 1)).length by rw [List.length_set]; omega), List.getElem_set]
    split
    · rename_i e; subst e
      have := closed_iff.1 hcl a ha i hi g1 (Int.le_trans g2 (hle a ha))
      rw [g3] at this
      exact this
    · have := hle p hp
      rw [cAt_nat (show p < c.length by omega)] at this
      exact this
theorem closeF_closed {ps : List Pr} (hv : validF ps = true) {c : List Int} (hc : c.length = ps.length) (hr : inRangeF ps c = true) : closedF ps (closeF ps c) = true := by
  rw [closedF_iff, (closeF_ok hv hc hr).2.2]; rfl
end Go.AL
end
section
/- Elimination, plainly: states are skipped that no cut which satisfies the locals can have. No condition. -/
namespace Go.AL
open Go Go.RowKit
set_option maxRecDepth 4000
/-- What elimination depends on: processes, last states, where the locals are true, and what a state needs. -/
structure Elim where
  n : Nat
  top : Nat → Nat
  ok : Nat → Nat → Bool
  need : Nat → Nat → Nat → Int
def exB (E : Elim) (now : Nat → Nat) (p k : Nat) : Bool := !E.ok p k || (List.range E.n).any fun q => decide (q ≠ p) && decide ((k : Int) < E.need q (now q) p)
def nextF (ex : Nat → Bool) (top : Nat) : Nat → Nat → Nat
  | 0, k => k
  | m + 1, k => if k ≤ top ∧ ex k = true then nextF ex top m (k + 1) else k
def nextK (ex : Nat → Bool) (top k : Nat) : Nat := nextF ex top (top + 1 - k) k
section
variable {ex : Nat → Bool} {top k : Nat}
theorem nextK_hit (h : k ≤ top) (he : ex k = true) : nextK ex top k = nextK ex top (k + 1) := by
  unfold nextK
  obtain ⟨m, hm⟩ : ∃ m, top + 1 - k = m + 1 := ⟨top - k, by omega⟩
  rw [hm, nextF, if_pos ⟨h, he⟩, show top + 1 - (k + 1) = m by omega]
theorem nextK_stop (h : ¬ (k ≤ top ∧ ex k = true)) : nextK ex top k = k := by
  unfold nextK
  cases top + 1 - k with
  | zero => rfl
  | succ m => rw [nextF, if_neg h]
theorem nextK_spec : ∀ (m k : Nat), top + 1 - k = m → k ≤ top + 1 → k ≤ nextK ex top k ∧ nextK ex top k ≤ top + 1 ∧ (∀ j, k ≤ j → j < nextK ex top k → ex j = true) ∧ (nextK ex top k ≤ top → ex (nextK ex top k) = false)
  | 0, k, hm, hk => by
    rw [nextK_stop (by omega)]
    exact ⟨Nat.le_refl _, hk, fun j _ _ => by omega, fun h => by omega⟩
  | m + 1, k, hm, hk => by
    by_cases he : ex k = true
    · rw [nextK_hit (by omega) he]
      obtain ⟨a1, a2, a3, a4⟩ := nextK_spec m (k + 1) (by omega) (by omega)
      refine ⟨by omega, a2, fun j h1 h2 => ?_, a4⟩
      by_cases e : j = k
      · subst e; exact he
      · exact a3 j (by omega) h2
    · rw [nextK_stop (fun h => he h.2)]
      exact ⟨Nat.le_refl _, hk, fun j _ _ => by omega, fun _ => by simpa using he⟩
end
def stepP (E : Elim) (now : Nat → Nat) : Option Nat := (List.range E.n).find? fun p => exB E now p (now p)
def goF (E : Elim) (now : Nat → Nat) (p : Nat) : Nat := nextK (exB E now p) (E.top p) (now p)
def updN (f : Nat → Nat) (p x : Nat) : Nat → Nat := fun q => if q = p then x else f q
theorem updN_self (f : Nat → Nat) (p x : Nat) : updN f p x p = x := if_pos rfl
theorem updN_ne {f : Nat → Nat} {p x q : Nat} (h : q ≠ p) : updN f p x q = f q := if_neg h
theorem find_range {n : Nat} {f : Nat → Bool} {p : Nat} (h : (List.range n).find? f = some p) : p < n ∧ f p = true ∧ ∀ q, q < p → f q = false := by
  rw [List.find?_eq_some_iff_getElem] at h
  obtain ⟨h1, i, hi, e, h2⟩ := h
  rw [List.getElem_range] at e
  subst e
  refine ⟨by simpa using hi, h1, fun q hq => ?_⟩
  have := h2 q hq
  rw [List.getElem_range] at this
  simpa using this
abbrev Stp := Nat × Nat × Nat
/-- The steps from where one is, where they end, and whether a process is through. -/
inductive RunR (E : Elim) : (Nat → Nat) → List Stp → (Nat → Nat) → Bool → Prop
  | stop {now : Nat → Nat} (h : stepP E now = none) : RunR E now [] now false
  | lost {now : Nat → Nat} {p : Nat} (h : stepP E now = some p) (hl : E.top p < goF E now p) : RunR E now [(p, now p, goF E now p - 1)] (updN now p (goF E now p)) true
  | go {now fin : Nat → Nat} {p : Nat} {st : List Stp} {l : Bool} (h : stepP E now = some p) (hl : goF E now p ≤ E.top p) (hr : RunR E (updN now p (goF E now p)) st fin l) : RunR E now ((p, now p, goF E now p - 1) :: st) fin l
def InE (E : Elim) (now : Nat → Nat) : Prop := ∀ q, q < E.n → now q ≤ E.top q
def roomE (E : Elim) (now : Nat → Nat) : Nat := totS E.n fun q => E.top q + 1 - now q
theorem totS_lt {c c' : Nat → Nat} {p : Nat} (h : ∀ q, q ≠ p → c' q = c q) (hp : c' p < c p) : ∀ n, totS n c' + (if p < n then 1 else 0) ≤ totS n c
  | 0 => by simp [totS]
  | n + 1 => by
    have := totS_lt h hp n
    rw [totS_succ, totS_succ]
    by_cases e : n = p
    · subst e
      rw [if_neg (by omega)] at this
      rw [if_pos (by omega)]; omega
    · rw [h n e]
      by_cases e2 : p < n
      · rw [if_pos e2] at this; rw [if_pos (by omega)]; omega
      · rw [if_neg e2] at this; rw [if_neg (by omega)]; omega
theorem step_inv {E : Elim} {now : Nat → Nat} (hI : InE E now) {p : Nat} (h : stepP E now = some p) :
    p < E.n ∧ exB E now p (now p) = true ∧ (∀ q, q < p → exB E now q (now q) = false) ∧ now p < goF E now p ∧ goF E now p ≤ E.top p + 1 ∧ (∀ j, now p ≤ j → j < goF E now p → exB E now p j = true) ∧ roomE E (updN now p (goF E now p)) < roomE E now := by
  obtain ⟨h1, h2, h3⟩ := find_range h
  have hle := hI p h1
  obtain ⟨a1, a2, a3, a4⟩ := nextK_spec (ex := exB E now p) (top := E.top p) _ (now p) rfl (by omega)
  have hlt : now p < goF E now p := by
    unfold goF
    rw [nextK_hit hle h2]
    obtain ⟨b1, _⟩ := nextK_spec (ex := exB E now p) (top := E.top p) _ (now p + 1) rfl (by omega)
    omega
  refine ⟨h1, h2, h3, hlt, a2, a3, ?_⟩
  unfold roomE
  have := totS_lt (c := fun q => E.top q + 1 - now q) (c' := fun q => E.top q + 1 - updN now p (goF E now p) q) (p := p) (fun q hq => by rw [updN_ne hq]) (by rw [updN_self]; omega) E.n
  rw [if_pos h1] at this
  omega
theorem inE_step {E : Elim} {now : Nat → Nat} (hI : InE E now) {p : Nat} (hl : goF E now p ≤ E.top p) : InE E (updN now p (goF E now p)) := fun q hq => by
  by_cases e : q = p
  · subst e; rw [updN_self]; exact hl
  · rw [updN_ne e]; exact hI q hq
theorem run_ex (E : Elim) : ∀ (m : Nat) (now : Nat → Nat), InE E now → roomE E now ≤ m → ∃ st fin l, RunR E now st fin l := by
  intro m
  induction m with
  | zero =>
    intro now hI hm
    cases h : stepP E now with
    | none => exact ⟨_, _, _, .stop h⟩
    | some p => have := (step_inv hI h).2.2.2.2.2.2; omega
  | succ m ih =>
    intro now hI hm
    cases h : stepP E now with
    | none => exact ⟨_, _, _, .stop h⟩
    | some p =>
      have h7 := (step_inv hI h).2.2.2.2.2.2
      by_cases hl : goF E now p ≤ E.top p
      · obtain ⟨st, fin, l, hr⟩ := ih _ (inE_step hI hl) (by omega)
        exact ⟨_, _, _, .go h hl hr⟩
      · exact ⟨_, _, _, .lost h (by omega)⟩
theorem inE_zero (E : Elim) : InE E fun _ => 0 := fun _ _ => Nat.zero_le _
open Classical in
noncomputable def stepsF (E : Elim) : List Stp := Classical.choose (run_ex E _ _ (inE_zero E) (Nat.le_refl _))
open Classical in
noncomputable def finF (E : Elim) : Nat → Nat := Classical.choose (Classical.choose_spec (run_ex E _ _ (inE_zero E) (Nat.le_refl _)))
open Classical in
noncomputable def lostF (E : Elim) : Bool := Classical.choose (Classical.choose_spec (Classical.choose_spec (run_ex E _ _ (inE_zero E) (Nat.le_refl _))))
/-! ### What is found is least -/
end Go.AL
end
section
/- The board of the package conjunctive: which states are excluded, who is through, one step. No condition. -/
namespace Go.AL
open Go Go.RowKit
set_option maxRecDepth 4000
def okL (E : Elim) (p : Nat) : List AV := (List.range (E.top p + 1)).map fun k => ab (E.ok p k)
def okM (E : Elim) : List AV := (List.range E.n).map fun p => .sl 1 (okL E p)
def needL (E : Elim) (q m : Nat) : List AV := (List.range E.n).map fun p => ai (E.need q m p)
def needM (E : Elim) (q : Nat) : List AV := (List.range (E.top q + 1)).map fun m => .sl 1 (needL E q m)
def needT (E : Elim) : List AV := (List.range E.n).map fun q => .sl 1 (needM E q)
section
variable {E : Elim} {p q m k : Nat}
end
def aBoard (E : Elim) (now : Nat → Nat) : AV := .rp 3 [.agg [.sl 1 (needT E), .sl 1 (okM E), .sl 1 (dnA E.n now)]] 0 0
structure SmE (E : Elim) : Prop where
  n : E.n ≤ 1000000
  top : ∀ q, E.top q ≤ 1000000
def lostB (E : Elim) (now : Nat → Nat) : Bool := (List.range E.n).any fun q => decide (E.top q < now q)
end Go.AL
end
section
/- Closing counts: the packages cut and the reference of layer 22. No condition. -/
namespace Go.AL
open Go Go.RowKit
set_option maxRecDepth 4000
/-! ### The reference -/
theorem stC_ok {ps : List Pr} {p : Nat} {k : Int} (hp : p < ps.length) (h0 : 0 ≤ k) (hk : k ≤ ps[p].evs.length) : (stC ps.length p k).length = ps.length ∧ inRangeF ps (stC ps.length p k) = true := by
  have hl : (stC ps.length p k).length = ps.length := by unfold stC; rw [List.length_set, List.length_replicate]
  refine ⟨hl, ?_⟩
  rw [inRange_iff hl]
  intro q hq
  unfold cAt stC
  rw [Int.toNat_natCast, getD_set0]
  split
  · rename_i e; obtain ⟨rfl, _⟩ := e; omega
  · rw [List.getD_eq_getElem?_getD, List.getElem?_replicate, if_pos hq]
    exact ⟨Int.le_refl 0, by simp⟩
end Go.AL
end
section
/- The reference's values of expressions and truth of predicates. No condition. -/
namespace Go.AL
open Go Go.RowKit
set_option maxRecDepth 4000
end Go.AL
end
section
/- Local predicates: which they are, and their truth in states. No condition. -/
namespace Go.AL
open Go Go.RowKit
set_option maxRecDepth 4000
/-! ### The faults of a local predicate -/
/-! ### The reference -/
noncomputable def treeF (ps : List Pr) (t : Pd) (w : Int) : Int := if checkF ps t ≠ 0 then checkF ps t else if resF t.kind ≠ w then 14 else 0
end Go.AL
end
section
/- The truth of a local predicate in the states of its process. No condition. -/
namespace Go.AL
open Go Go.RowKit
set_option maxRecDepth 4000
theorem stC_len (n p : Nat) (k : Int) : (stC n p k).length = n := by unfold stC; rw [List.length_set, List.length_replicate]
def stV (n p : Nat) (st : List Int) : List (List Int) := (List.replicate n []).set p st
end Go.AL
end
section
/- The truths of a local predicate; the reference's truth in a state. No condition. -/
namespace Go.AL
open Go Go.RowKit
set_option maxRecDepth 4000
noncomputable def aTruths (ps : List Pr) (p : Int) (t : Pd) : AV := if lclF ps p 0 t = 0 then .tup [.sl 1 ((truthsF ps p.toNat t).map ab), ai 0] else .tup [.sl 1 [], ai (lclF ps p 0 t)]
end Go.AL
end
section
/- What the states of a trace need: the package conjunctive's table. No condition. -/
namespace Go.AL
open Go Go.RowKit
set_option maxRecDepth 4000
/-- Elimination in a trace, with local predicates. -/
noncomputable def elimOf (ps : List Pr) (ts : List Pd) : Elim where
  n := ps.length
  top := nev ps
  ok := fun p k => match ts[p]? with | some t => lclT ps p t k | none => true
  need := fun q k p => cAt (closeF ps (stC ps.length q k)) p
def doneN (E : Elim) (p : Nat) : List AV := (List.range E.n).map fun q => if q < p then .sl 1 (needM E q) else anil
def needK (E : Elim) (q m : Nat) : List AV := (List.range m).map fun j => .sl 1 (needL E q j)
end Go.AL
end
section
/- The board of the package conjunctive: one step of elimination, and all of them. No condition. -/
namespace Go.AL
open Go Go.RowKit
set_option maxRecDepth 4000
def aStp (s : Stp) : AV := .agg [ai s.1, ai s.2.1, ai s.2.2]
def stepR (E : Elim) (now : Nat → Nat) : AV := match stepP E now with
  | none => .tup [(.agg [ai 0, ai 0, ai 0]), ab false]
  | some p => .tup [.agg [ai p, ai (now p), ai ((goF E now p : Int) - 1)], ab true]
def stepN (E : Elim) (now : Nat → Nat) : Nat → Nat := match stepP E now with
  | none => now
  | some p => updN now p (goF E now p)
end Go.AL
end
section
/- The board of a trace with local predicates is made: the package conjunctive. No condition. -/
namespace Go.AL
open Go Go.RowKit
set_option maxRecDepth 4000
def lclAt (z : Int → Pd → Int) (ts : List Pd) (p : Nat) : Int := match ts[p]? with | some t => z p t | none => 0
/-- The error of local predicates: the first one's that has one. -/
noncomputable def conF (ps : List Pr) (ts : List Pd) : Int :=
  if validF ps = true ∧ ts.length = ps.length then match (List.range ts.length).find? (fun p => decide (lclAt (fun p t => lclF ps p 0 t) ts p ≠ 0)) with | some p => lclAt (fun p t => lclF ps p 0 t) ts p | none => 0 else 1
end Go.AL
end
section
/- The law of layer 49: awake. No condition. -/
namespace Go.AL
open Go Go.RowKit
set_option maxRecDepth 4000
theorem AWp.only {C : Cfg} {cd : Code} {Q : AQ} {ρ : Env} {L : AHeap} (ks : List Nat) (h : AWp C cd Q (ks.zip (ks.map (get ρ))) L) : AWp C cd Q ρ L :=
  AWp.st (fun _w0 _M _A0 _a _w hh => st_forget hh (get_zip ks ρ)) h
def psA : List Pr := [⟨⟨#[112]⟩, [], [⟨2, 1, 5, 0, []⟩]⟩, ⟨⟨#[113]⟩, [], [⟨3, 0, 5, 3, []⟩]⟩]
def psB : List Pr := [⟨⟨#[112]⟩, [], []⟩, ⟨⟨#[113]⟩, [], [⟨1, 0, 0, 3, []⟩]⟩]
end Go.AL
end
section
/- Runs of elimination are determined; the example of the chapter. Plain laws. No condition. -/
namespace Go.AL
open Go Go.RowKit
set_option maxRecDepth 4000
/-! ### Answers -/
structure Ans where
  mode : Int
  holds : Bool
  kind : Int
  cut : List Int
  cuts : List (List Int)
  run : List (List Int)
  spans : List (Int × Int × Int)
  value : Int
def aSp (s : Int × Int × Int) : AV := .agg [ai s.1, ai s.2.1, ai s.2.2]
def aSps (l : List (Int × Int × Int)) : AV := .sl 3 (l.map aSp)
def aAns (a : Ans) : AV := .agg [ai a.mode, ab a.holds, ai a.kind, aInts a.cut, aRows a.cuts, aRows a.run, aSps a.spans, ai a.value]
def stpI (s : Stp) : Int × Int × Int := (s.1, s.2.1, s.2.2)
def cutL (n : Nat) (f : Nat → Nat) : List Int := (List.range n).map fun q => (f q : Int)
def noAns : Ans := ⟨0, false, 0, [], [], [], [], 0⟩
/-- The answer of an elimination. -/
noncomputable def ansOf (E : Elim) : Ans := if lostF E = true then ⟨1, false, 4, [], [], [], (stepsF E).map stpI, 0⟩ else ⟨1, true, 1, cutL E.n (finF E), [], [], [], 0⟩
/-! ### The example -/
def psC : List Pr := [⟨⟨#[112]⟩, [(⟨#[120]⟩, 0)], [⟨1, 0, 0, 0, [(0, 1)]⟩, ⟨1, 0, 0, 0, [(0, 0)]⟩, ⟨2, 1, 5, 0, []⟩]⟩, ⟨⟨#[113]⟩, [(⟨#[121]⟩, 0)], [⟨3, 0, 5, 0, []⟩, ⟨1, 0, 0, 0, [(0, 1)]⟩]⟩]
def oneT (p : Int) (s : ByteArray) : Pd := .mk 9 0 0 0 ByteArray.empty [.mk 2 0 p 0 s [], .mk 1 1 0 0 ByteArray.empty []]
def tsC : List Pd := [oneT 0 ⟨#[120]⟩, oneT 1 ⟨#[121]⟩]
def tsD : List Pd := [oneT 0 ⟨#[120]⟩, .mk 13 0 0 0 ByteArray.empty []]
end Go.AL
end
section
/- The greatest closed counts below counts: receipts whose sends are missing are left out one by one. Plain laws. No condition. -/
namespace Go.AL
open Go Go.RowKit
set_option maxRecDepth 4000
def openN (ps : List Pr) : Nat → List Int → List Int
  | 0, c => c
  | n + 1, c => match missF ps c with
    | none => c
    | some x => openN ps n (c.set x.2.1.toNat (x.2.2 - 1))
def openF (ps : List Pr) (c : List Int) : List Int := openN ps (totC c) c
end Go.AL
end
section
/- What elimination finds: the least consistent cut whose counts are states in which the locals are true. Plain laws. No condition. -/
namespace Go.AL
open Go Go.RowKit
set_option maxRecDepth 4000
/-- An elimination in a trace, whatever its states' truths. -/
structure NeedOk (ps : List Pr) (E : Elim) : Prop where
  n : E.n = ps.length
  top : ∀ p (hp : p < ps.length), E.top p = ps[p].evs.length
  need : ∀ q k p, E.need q k p = cAt (closeF ps (stC ps.length q k)) p
/-- A consistent cut whose counts are states that are not excluded in themselves. -/
structure SatD (ps : List Pr) (E : Elim) (d : List Int) : Prop where
  len : d.length = ps.length
  rng : inRangeF ps d = true
  clo : closedF ps d = true
  ok : ∀ p, p < ps.length → E.ok p (cAt d p).toNat = true
theorem stC_cAt {n p q : Nat} {k : Int} (hq : q < n) : cAt (stC n p k) q = if p = q then k else 0 := by
  rw [cAt_nat (by rw [stC_len]; exact hq)]
  unfold stC
  rw [List.getElem_set, List.getElem_replicate]
theorem need_le {ps : List Pr} (hv : validF ps = true) {d : List Int} (hd : d.length = ps.length) (hr : inRangeF ps d = true) (hcl : closedF ps d = true) {q k : Nat} (hq : q < ps.length) (hk : (k : Int) ≤ cAt d q) : ∀ p, p < ps.length → cAt (closeF ps (stC ps.length q k)) p ≤ cAt d p := by
  have h0 := (inRange_iff hd).1 hr
  obtain ⟨a1, a2⟩ := stC_ok (k := (k : Int)) hq (by omega) (by have := (h0 q hq).2; omega)
  refine closeF_least hv hd hcl a1 a2 fun p hp => ?_
  rw [stC_cAt hp]
  split
  · rename_i e; subst e; exact hk
  · exact (h0 p hp).1
section
variable {ps : List Pr} {E : Elim}
end
end Go.AL
end
