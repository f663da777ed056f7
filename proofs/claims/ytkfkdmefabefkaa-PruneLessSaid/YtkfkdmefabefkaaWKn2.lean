/- The package prune and its reference: what is kept. No condition. -/
import Derived.Test.YtkfkdmefabefkaaWKn
namespace Go.AL
open Go Go.RowKit
set_option maxRecDepth 4000
theorem foldl_mem {f : Int → Int → Int} {p : Int → Prop} (hf : ∀ a b, p a → p b → p (f a b)) : ∀ (rs : List (List Int)) (r0 : List Int), (∀ n ∈ r0, p n) → (∀ r ∈ rs, ∀ n ∈ r, p n) → ∀ n ∈ rs.foldl (List.zipWith f) r0, p n
  | [], r0, h0, _ => h0
  | r :: rs, r0, h0, h => foldl_mem hf rs _ (fun n hn => by
      obtain ⟨i, hi, rfl⟩ := List.getElem_of_mem hn
      rw [List.getElem_zipWith]
      exact hf _ _ (h0 _ (List.getElem_mem _)) (h r (by simp) _ (List.getElem_mem _))) (fun r' hr' => h r' (List.mem_cons_of_mem _ hr'))
theorem foldF_mem {f : Int → Int → Int} {p : Int → Prop} (hf : ∀ a b, p a → p b → p (f a b)) {l : List (List Int)} (h : ∀ r ∈ l, ∀ n ∈ r, p n) : ∀ n ∈ foldF f l, p n := by
  cases l with
  | nil => intro n hn; simp [foldF] at hn
  | cons r0 rs => exact foldl_mem hf rs r0 (h r0 (by simp)) (fun r hr => h r (List.mem_cons_of_mem _ hr))
theorem foldF_len {f : Int → Int → Int} {l : List (List Int)} {n : Nat} (h1 : 1 ≤ l.length) (h : ∀ r ∈ l, r.length = n) : (foldF f l).length = n := by
  cases l with
  | nil => simp at h1
  | cons r0 rs => exact foldl_len f n rs (fun r hr => h r (List.mem_cons_of_mem _ hr)) r0 (h r0 (by simp))
def kZ (l : List (List Int)) : List Int := List.zipWith (fun a b => a - b) (foldF max l) (foldF min l)
def keptF (l : List (List Int)) : Int := (kZ l).sum
theorem sum_take (Z : List Int) (j : Nat) (hj : j < Z.length) : (Z.take (j + 1)).sum = (Z.take j).sum + Z[j] := by
  rw [List.take_succ_eq_append_getElem hj, List.sum_append]; simp
theorem sum_bound {Z : List Int} (h : ∀ z ∈ Z, -1000000 ≤ z ∧ z ≤ 1000000) : -((Z.length : Int) * 1000000) ≤ Z.sum ∧ Z.sum ≤ (Z.length : Int) * 1000000 := by
  induction Z with
  | nil => simp
  | cons z Z ih =>
    have h1 := h z (by simp)
    have h2 := ih fun z hz => h z (List.mem_cons_of_mem _ hz)
    simp only [List.sum_cons, List.length_cons]
    omega
theorem kept_bound {l : List (List Int)} (hB : ∀ r ∈ l, ∀ n ∈ r, 0 ≤ n ∧ n ≤ 1000000) : ∀ z ∈ kZ l, -1000000 ≤ z ∧ z ≤ 1000000 := by
  intro z hz
  unfold kZ at hz
  obtain ⟨i, hi, rfl⟩ := List.getElem_of_mem hz
  rw [List.getElem_zipWith]
  have h1 := foldF_mem (f := max) (p := fun n => 0 ≤ n ∧ n ≤ 1000000) (fun a b ha hb => by omega) hB _ (List.getElem_mem (l := foldF max l) (by simp at hi; omega : i < _))
  have h2 := foldF_mem (f := min) (p := fun n => 0 ≤ n ∧ n ≤ 1000000) (fun a b ha hb => by omega) hB _ (List.getElem_mem (l := foldF min l) (by simp at hi; omega : i < _))
  omega
theorem prune_kept (l : List (List Int)) (h1 : 1 ≤ l.length) (h2 : l.length ≤ 1000000) (hr : ∀ row ∈ l, row.length = l.length) (hB : ∀ r ∈ l, ∀ n ∈ r, 0 ≤ n ∧ n ≤ 1000000) : PC Go.Proofs.Try.prog 26 [aRows l] (ai (keptF l)) := by
  have hlm := foldF_len (f := min) h1 hr
  have hlM := foldF_len (f := max) h1 hr
  have hkb := kept_bound hB
  have hzl : (kZ l).length = l.length := by unfold kZ; rw [List.length_zipWith]; omega
  have f1 := fold_sq l h1 h2 hr min _ rfl (fun a b => (prune_least a b).val)
  have f2 := fold_sq l h1 h2 hr max _ rfl (fun a b => (prune_greatest a b).val)
  have hzg : ∀ j (hj : j < l.length), (kZ l)[j]'(by omega) = (foldF max l)[j]'(by omega) - (foldF min l)[j]'(by omega) := fun j hj => List.getElem_zipWith
  have hmm : ∀ n ∈ foldF max l, 0 ≤ n ∧ n ≤ 1000000 := foldF_mem (p := fun n => 0 ≤ n ∧ n ≤ 1000000) (fun a b ha hb => by omega) hB
  have hmn : ∀ n ∈ foldF min l, 0 ≤ n ∧ n ≤ 1000000 := foldF_mem (p := fun n => 0 ≤ n ∧ n ≤ 1000000) (fun a b ha hb => by omega) hB
  refine PC.enter 27 [.tmp 2] [] Go.Proofs.Try.func26 rfl rfl rfl rfl rfl (by simp) (AWp.of ?_); simp only [go_sem]
  repeat (first | ((with_reducible refine AWp.ofC ?_ ?_); (focus exact rfl); simp only [go_sem]) | ((with_reducible refine And.intro ?_ ?_); focus first | exact True.intro | omega | (intros; (with_reducible and_intros) <;> first | (with_reducible assumption) | omega; done)))
  repeat ((with_reducible refine And.intro ?_ ?_); focus first | exact True.intro | omega | (intros; (with_reducible and_intros) <;> first | (with_reducible assumption) | omega; done) | (simp; done) | (simp; omega))
  refine (f1).val.use ?_; simp only [go_sem]
  repeat ((with_reducible refine And.intro ?_ ?_); focus first | exact True.intro | omega | (intros; (with_reducible and_intros) <;> first | (with_reducible assumption) | omega; done) | (simp; done) | (simp; omega))
  refine AWp.of ?_; simp only [go_sem]
  repeat ((with_reducible refine And.intro ?_ ?_); focus first | exact True.intro | omega | (intros; (with_reducible and_intros) <;> first | (with_reducible assumption) | omega; done) | (simp; done) | (simp; omega))
  refine (f2).val.use ?_; simp only [go_sem]
  refine AWp.range' l.length [4] [3, 10, 11] (fun j vs L => L = [] ∧ vs = [ai ((kZ l).take j).sum]) (by omega) rfl (by simp [get, hlM]) rfl ⟨rfl, rfl⟩ ?_ ?_
  · rintro j vs L' hj - ⟨rfl, rfl⟩
    have hjM : j < (foldF max l).length := by omega
    have hjm : j < (foldF min l).length := by omega
    have hsu := sum_take (kZ l) j (by omega)
    have hb := sum_bound (Z := (kZ l).take j) (fun z hz => hkb z (List.mem_of_mem_take hz))
    have htl : ((kZ l).take j).length ≤ 1000000 := by rw [List.length_take]; omega
    have hb1 := hmm _ (List.getElem_mem hjM)
    have hb2 := hmn _ (List.getElem_mem hjm)
    rw [hzg j hj] at hsu
    simp only [go_sem]
    repeat ((with_reducible refine And.intro ?_ ?_); focus first | exact True.intro | omega | (intros; (with_reducible and_intros) <;> first | (with_reducible assumption) | omega; done) | (simp; done) | (simp; omega))
    refine AWp.of ?_; simp only [go_sem, getD_map hjM]
    repeat (first | ((with_reducible refine AWp.ofC ?_ ?_); (focus exact rfl); simp only [go_sem, getD_map hjm]) | ((with_reducible refine And.intro ?_ ?_); focus first | exact True.intro | omega | (intros; (with_reducible and_intros) <;> first | (with_reducible assumption) | omega; done)))
    repeat ((with_reducible refine And.intro ?_ ?_); focus first | exact True.intro | omega | (intros; (with_reducible and_intros) <;> first | (with_reducible assumption) | omega; done) | (simp; done) | (simp; omega))
    exact ⟨_, List.Sublist.refl _, rfl, by rw [hsu]⟩
  · rintro vs L' - ⟨rfl, rfl⟩
    simp only [go_sem]
    repeat (first | ((with_reducible refine AWp.ofC ?_ ?_); (focus exact rfl); simp only [go_sem]) | ((with_reducible refine And.intro ?_ ?_); focus first | exact True.intro | omega | (intros; (with_reducible and_intros) <;> first | (with_reducible assumption) | omega; done)))
    refine ret_eq ?_; simp only [go_sem]
    unfold keptF; rw [List.take_of_length_le (by omega)]
def aKept (l : List (List Int)) : AV := if isKn l then .tup [ai (keptF l), ai 0] else .tup [ai 0, ai 1]
theorem prune_Kept (l : List (List Int)) (hl : l.length ≤ 1000000) (hr : ∀ row ∈ l, row.length ≤ 1000000) : PC Go.Proofs.Try.prog 9 [aRows l] (aKept l) := by
  refine PC.enter 9 [.tmp 2, .tmp 3] [] Go.Proofs.Try.func9 rfl rfl rfl rfl rfl (by simp) (AWp.of ?_); simp only [go_sem]
  repeat (first | ((with_reducible refine AWp.ofC ?_ ?_); (focus exact rfl); simp only [go_sem]) | ((with_reducible refine And.intro ?_ ?_); focus first | exact True.intro | omega | (intros; (with_reducible and_intros) <;> first | (with_reducible assumption) | omega; done)))
  repeat ((with_reducible refine And.intro ?_ ?_); focus first | exact True.intro | omega | (intros; (with_reducible and_intros) <;> first | (with_reducible assumption) | omega; done) | (simp; done) | (simp; omega))
  refine (prune_knowledge l hl hr).val.use ?_; simp only [go_sem]
  repeat (first | ((with_reducible refine AWp.ofC ?_ ?_); (focus exact rfl); simp only [go_sem]) | ((with_reducible refine And.intro ?_ ?_); focus first | exact True.intro | omega | (intros; (with_reducible and_intros) <;> first | (with_reducible assumption) | omega; done)))
  refine ⟨fun h1 => ?_, fun h1 => ?_⟩
  · repeat (first | ((with_reducible refine AWp.ofC ?_ ?_); (focus exact rfl); simp only [go_sem]) | ((with_reducible refine And.intro ?_ ?_); focus first | exact True.intro | omega | (intros; (with_reducible and_intros) <;> first | (with_reducible assumption) | omega; done)))
    have e : aKept l = .tup [ai 0, ai 1] := by unfold aKept; rw [h1]; rfl
    rw [e]
    refine ret_eq ?_; simp only [go_sem]
  · have e : aKept l = .tup [ai (keptF l), ai 0] := by unfold aKept; rw [h1]; rfl
    obtain ⟨k1, k2, k3⟩ := isKn_inv h1
    repeat (first | ((with_reducible refine AWp.ofC ?_ ?_); (focus exact rfl); simp only [go_sem]) | ((with_reducible refine And.intro ?_ ?_); focus first | exact True.intro | omega | (intros; (with_reducible and_intros) <;> first | (with_reducible assumption) | omega; done)))
    repeat ((with_reducible refine And.intro ?_ ?_); focus first | exact True.intro | omega | (intros; (with_reducible and_intros) <;> first | (with_reducible assumption) | omega; done) | (simp; done) | (simp; omega))
    refine (prune_kept l k1 hl (fun r hr => (k3 r hr).1) (fun r hr n hn => by have := (k3 r hr).2 n hn; omega)).val.use ?_; simp only [go_sem]
    repeat (first | ((with_reducible refine AWp.ofC ?_ ?_); (focus exact rfl); simp only [go_sem]) | ((with_reducible refine And.intro ?_ ?_); focus first | exact True.intro | omega | (intros; (with_reducible and_intros) <;> first | (with_reducible assumption) | omega; done)))
    rw [e]
    refine ret_eq ?_; simp only [go_sem]
theorem ref49_in (n : Int) : PC Go.Proofs.Try.prog 27 [ai n] (ab (inB n)) := by
  refine PC.enter 9 [.tmp 2] [] Go.Proofs.Try.func27 rfl rfl rfl rfl rfl (by simp) (AWp.of ?_); simp only [go_sem]
  repeat (first | ((with_reducible refine AWp.ofC ?_ ?_); (focus exact rfl); simp only [go_sem]) | ((with_reducible refine And.intro ?_ ?_); focus first | exact True.intro | omega | (intros; (with_reducible and_intros) <;> first | (with_reducible assumption) | omega; done)))
  refine ret_eq ?_; simp only [go_sem]
  rfl
theorem ref49_Knowledge (l : List (List Int)) (hl : l.length ≤ 1000000) (hr : ∀ row ∈ l, row.length ≤ 1000000) : PC Go.Proofs.Try.prog 10 [aRows l] (ab (isKn l)) := by
  refine PC.enter 42 [.tmp 2] [] Go.Proofs.Try.func10 rfl rfl rfl rfl rfl (by simp) (AWp.of ?_); simp only [go_sem]
  repeat (first | ((with_reducible refine AWp.ofC ?_ ?_); (focus exact rfl); simp only [go_sem]) | ((with_reducible refine And.intro ?_ ?_); focus first | exact True.intro | omega | (intros; (with_reducible and_intros) <;> first | (with_reducible assumption) | omega; done)))
  refine ⟨fun ht => ?_, fun h1 h2 => ?_⟩
  · repeat (first | ((with_reducible refine AWp.ofC ?_ ?_); (focus exact rfl); simp only [go_sem]) | ((with_reducible refine And.intro ?_ ?_); focus first | exact True.intro | omega | (intros; (with_reducible and_intros) <;> first | (with_reducible assumption) | omega; done)))
    refine ret_eq ?_; simp only [go_sem]
    congr 2; symm; unfold isKn
    rcases ht with h | h
    · simp [show ¬ 1 ≤ l.length by omega]
    · simp [show ¬ l.length ≤ 8 by omega]
  · repeat (first | ((with_reducible refine AWp.ofC ?_ ?_); (focus exact rfl); simp only [go_sem]) | ((with_reducible refine And.intro ?_ ?_); focus first | exact True.intro | omega | (intros; (with_reducible and_intros) <;> first | (with_reducible assumption) | omega; done)))
    have bad : ∀ (i : Nat) (hi : i < l.length), (decide (l[i].length = l.length) && l[i].all inB) = false → isKn l = false := fun i hi hb => by
      unfold isKn; rw [all_false_at hi hb, Bool.and_false]
    refine AWp.block (AWp.count 3 l.length [] [0] (fun i vs L => L = [] ∧ ∀ (r : Nat) (hr : r < l.length), r < i → (decide (l[r].length = l.length) && l[r].all inB) = true) rfl rfl ⟨rfl, by omega⟩ ?_)
    rintro i vs L' hi - ⟨rfl, hI⟩
    simp only [go_sem]
    repeat (first | ((with_reducible refine AWp.ofC ?_ ?_); (focus exact rfl); simp only [go_sem]) | ((with_reducible refine And.intro ?_ ?_); focus first | exact True.intro | omega | (intros; (with_reducible and_intros) <;> first | (with_reducible assumption) | omega; done)))
    refine ⟨fun h3 => ?_, fun h3 => ?_⟩
    · have hil : i < l.length := by omega
      repeat ((with_reducible refine And.intro ?_ ?_); focus first | exact True.intro | omega | (intros; (with_reducible and_intros) <;> first | (with_reducible assumption) | omega; done) | (simp; done) | (simp; omega))
      refine AWp.of ?_; simp only [go_sem, getD_map hil]
      repeat ((with_reducible refine And.intro ?_ ?_); focus first | exact True.intro | omega | (intros; (with_reducible and_intros) <;> first | (with_reducible assumption) | omega; done) | (simp; done) | (simp; omega))
      repeat (first | ((with_reducible refine AWp.ofC ?_ ?_); (focus exact rfl); simp only [go_sem]) | ((with_reducible refine And.intro ?_ ?_); focus first | exact True.intro | omega | (intros; (with_reducible and_intros) <;> first | (with_reducible assumption) | omega; done)))
      refine ⟨fun h4 => ?_, fun h4 => ?_⟩
      · repeat (first | ((with_reducible refine AWp.ofC ?_ ?_); (focus exact rfl); simp only [go_sem]) | ((with_reducible refine And.intro ?_ ?_); focus first | exact True.intro | omega | (intros; (with_reducible and_intros) <;> first | (with_reducible assumption) | omega; done)))
        refine ret_eq ?_; simp only [go_sem]
        congr 2; symm
        exact bad i hil (by rw [decide_eq_false (by omega)]; rfl)
      · repeat (first | ((with_reducible refine AWp.ofC ?_ ?_); (focus exact rfl); simp only [go_sem]) | ((with_reducible refine And.intro ?_ ?_); focus first | exact True.intro | omega | (intros; (with_reducible and_intros) <;> first | (with_reducible assumption) | omega; done)))
        have hrl : l[i].length = l.length := by omega
        refine AWp.block (AWp.count 4 l.length [] [0, 3] (fun j vs L => L = [] ∧ ∀ (s : Nat) (hs : s < l[i].length), s < j → inB l[i][s] = true) rfl rfl ⟨rfl, by omega⟩ ?_)
        rintro j vs L' hj - ⟨rfl, hJ⟩
        simp only [go_sem]
        repeat (first | ((with_reducible refine AWp.ofC ?_ ?_); (focus exact rfl); simp only [go_sem]) | ((with_reducible refine And.intro ?_ ?_); focus first | exact True.intro | omega | (intros; (with_reducible and_intros) <;> first | (with_reducible assumption) | omega; done)))
        refine ⟨fun h5 => ?_, fun h5 => ?_⟩
        · have hjl : j < l[i].length := by omega
          repeat ((with_reducible refine And.intro ?_ ?_); focus first | exact True.intro | omega | (intros; (with_reducible and_intros) <;> first | (with_reducible assumption) | omega; done) | (simp; done) | (simp; omega))
          refine AWp.of ?_; simp only [go_sem, getD_map hil, getD_map hjl]
          repeat ((with_reducible refine And.intro ?_ ?_); focus first | exact True.intro | omega | (intros; (with_reducible and_intros) <;> first | (with_reducible assumption) | omega; done) | (simp; done) | (simp; omega))
          refine (ref49_in _).val.use ?_; simp only [go_sem]
          repeat (first | ((with_reducible refine AWp.ofC ?_ ?_); (focus exact rfl); simp only [go_sem]) | ((with_reducible refine And.intro ?_ ?_); focus first | exact True.intro | omega | (intros; (with_reducible and_intros) <;> first | (with_reducible assumption) | omega; done)))
          refine ⟨fun h6 => ?_, fun h6 => ?_⟩
          · repeat (first | ((with_reducible refine AWp.ofC ?_ ?_); (focus exact rfl); simp only [go_sem]) | ((with_reducible refine And.intro ?_ ?_); focus first | exact True.intro | omega | (intros; (with_reducible and_intros) <;> first | (with_reducible assumption) | omega; done)))
            refine ret_eq ?_; simp only [go_sem]
            congr 2; symm
            exact bad i hil (by rw [all_false_at hjl h6, Bool.and_false])
          · repeat (first | ((with_reducible refine AWp.ofC ?_ ?_); (focus exact rfl); simp only [go_sem]) | ((with_reducible refine And.intro ?_ ?_); focus first | exact True.intro | omega | (intros; (with_reducible and_intros) <;> first | (with_reducible assumption) | omega; done)))
            refine ⟨[], List.Sublist.refl _, rfl, fun s hs hsj => ?_⟩
            by_cases e : s = j
            · subst e; exact h6
            · exact hJ s hs (by omega)
        · repeat (first | ((with_reducible refine AWp.ofC ?_ ?_); (focus exact rfl); simp only [go_sem]) | ((with_reducible refine And.intro ?_ ?_); focus first | exact True.intro | omega | (intros; (with_reducible and_intros) <;> first | (with_reducible assumption) | omega; done)))
          refine ⟨[], List.Sublist.refl _, rfl, fun r hr hri => ?_⟩
          by_cases e : r = i
          · subst e; exact ⟨hrl, all_of_lt (fun s hs => hJ s hs (by omega))⟩
          · have := hI r hr (by omega)
            simpa using this
    · repeat (first | ((with_reducible refine AWp.ofC ?_ ?_); (focus exact rfl); simp only [go_sem]) | ((with_reducible refine And.intro ?_ ?_); focus first | exact True.intro | omega | (intros; (with_reducible and_intros) <;> first | (with_reducible assumption) | omega; done)))
      refine ret_eq ?_; simp only [go_sem]
      congr 2; symm
      unfold isKn
      rw [all_of_lt (fun r hr => hI r hr (by omega))]
      simp; omega
theorem ref49_Stable (l : List (List Int)) (h1 : 1 ≤ l.length) (h2 : l.length ≤ 1000000) (hr : ∀ row ∈ l, row.length = l.length) : PC Go.Proofs.Try.prog 12 [aRows l] (aInts (foldF min l)) := by
  obtain ⟨r0, rs, rfl⟩ : ∃ r0 rs, l = r0 :: rs := by cases l with | nil => simp at h1 | cons a b => exact ⟨a, b, rfl⟩
  have h0 : r0.length = (r0 :: rs).length := hr r0 (by simp)
  have hz : ∀ k, ((((r0 :: rs).take k).foldl (List.zipWith min) r0)).length = (r0 :: rs).length := fun k => foldl_len min _ _ (fun r hr' => hr r (List.mem_of_mem_take hr')) r0 h0
  have hend : (r0 :: rs).foldl (List.zipWith min) r0 = foldF min (r0 :: rs) := by
    have : List.zipWith min r0 r0 = r0 := by
      apply List.ext_getElem?
      intro i
      rw [List.getElem?_zipWith]
      cases r0[i]? with
      | none => rfl
      | some x => simp
    simp only [foldF, List.foldl_cons, this]
  have hhead : (r0 :: rs)[0]? = some r0 := rfl
  have hpos : 0 < (r0 :: rs).length := by simp
  have hg0 : (List.map aInts (r0 :: rs)).getD 0 .any = aInts r0 := rfl
  generalize hl : r0 :: rs = l at *
  refine PC.enter 46 [.tmp 2] [] Go.Proofs.Try.func12 rfl rfl rfl rfl rfl (by simp) (AWp.of ?_); simp only [go_sem]
  repeat ((with_reducible refine And.intro ?_ ?_); focus first | exact True.intro | omega | (intros; (with_reducible and_intros) <;> first | (with_reducible assumption) | omega; done) | (simp; done) | (simp; omega))
  refine AWp.of ?_; simp only [go_sem, hg0]
  intro b
  repeat ((with_reducible refine And.intro ?_ ?_); focus first | exact True.intro | omega | (intros; (with_reducible and_intros) <;> first | (with_reducible assumption) | omega; done) | (simp; done) | (simp; omega))
  intro b' cap' _
  rw [h0]
  repeat (first | ((with_reducible refine AWp.ofC ?_ ?_); (focus exact rfl); simp only [go_sem]) | ((with_reducible refine And.intro ?_ ?_); focus first | exact True.intro | omega | (intros; (with_reducible and_intros) <;> first | (with_reducible assumption) | omega; done)))
  refine AWp.block (AWp.count 4 l.length [] [0, 3] (fun i vs L => L = [(b', .row 3 1 (((l.take i).foldl (List.zipWith min) r0).map ai) cap')]) rfl rfl rfl ?_)
  rintro i vs L' hi - rfl
  simp only [go_sem]
  repeat (first | ((with_reducible refine AWp.ofC ?_ ?_); (focus exact rfl); simp only [go_sem]) | ((with_reducible refine And.intro ?_ ?_); focus first | exact True.intro | omega | (intros; (with_reducible and_intros) <;> first | (with_reducible assumption) | omega; done)))
  refine ⟨fun h3 => ?_, fun h3 => ?_⟩
  · have hil : i < l.length := by omega
    have hrk := hr _ (List.getElem_mem hil)
    have hck := hz i
    have hsu := foldF_take min l i hil r0
    generalize (l.take i).foldl (List.zipWith min) r0 = out at *
    have hzl : (List.zipWith min out l[i]).length = out.length := by rw [List.length_zipWith]; omega
    repeat (first | ((with_reducible refine AWp.ofC ?_ ?_); (focus exact rfl); simp only [go_sem]) | ((with_reducible refine And.intro ?_ ?_); focus first | exact True.intro | omega | (intros; (with_reducible and_intros) <;> first | (with_reducible assumption) | omega; done)))
    refine AWp.block (AWp.count 5 l.length [] [0, 3, 4] (fun j vs L => L = [(b', .row 3 1 (((List.zipWith min out l[i]).take j ++ out.drop j).map ai) cap')]) rfl rfl (by simp) ?_)
    rintro j vs L' hj - rfl
    simp only [go_sem]
    repeat (first | ((with_reducible refine AWp.ofC ?_ ?_); (focus exact rfl); simp only [go_sem]) | ((with_reducible refine And.intro ?_ ?_); focus first | exact True.intro | omega | (intros; (with_reducible and_intros) <;> first | (with_reducible assumption) | omega; done)))
    refine ⟨fun h5 => ?_, fun h5 => ?_⟩
    · have hjr : j < l[i].length := by omega
      have hjo : j < out.length := by omega
      have hgd : (List.map ai ((List.zipWith min out l[i]).take j ++ out.drop j)).getD j .any = ai out[j] := by
        rw [List.getD_eq_getElem?_getD, List.getElem?_map, upd_get hzl hjo]; rfl
      have hus := upd_set hzl hjo
      have hzj : (List.zipWith min out l[i])[j]'(by omega) = min out[j] l[i][j] := List.getElem_zipWith
      rw [hzj] at hus
      have hul : ((List.zipWith min out l[i]).take j ++ out.drop j).length = l.length := by rw [List.length_append, List.length_take, List.length_drop]; omega
      have hcj : ∀ h : j < ((List.zipWith min out l[i]).take j ++ out.drop j).length, ((List.zipWith min out l[i]).take j ++ out.drop j)[j] = out[j] := fun h => by
        have := upd_get hzl hjo
        rw [List.getElem?_eq_getElem h] at this
        exact Option.some.inj this
      have hset : (List.map ai ((List.zipWith min out l[i]).take j ++ out.drop j)).set j (ai l[i][j]) = List.map ai (((List.zipWith min out l[i]).take j ++ out.drop j).set j l[i][j]) := by rw [List.map_set]
      refine AWp.seq (AWp.block (AWp.seq ?_))
      refine AWp.drawn mixed 12 (by kernel_rfl) ?_; simp only [go_sem, getD_map hil, getD_map hjr, hgd]
      repeat ((with_reducible refine And.intro ?_ ?_); focus first | exact True.intro | omega | (intros; (with_reducible and_intros) <;> first | (with_reducible assumption) | omega; done) | (simp; done) | (simp; omega))
      repeat (first | ((with_reducible refine AWp.ofC ?_ ?_); (focus exact rfl); simp only [go_sem, getD_map hil, getD_map hjr, hgd]) | ((with_reducible refine And.intro ?_ ?_); focus first | exact True.intro | omega | (intros; (with_reducible and_intros) <;> first | (with_reducible assumption) | omega; done)))
      refine ⟨fun h6 => ?_, fun h6 => ?_⟩
      · repeat ((with_reducible refine And.intro ?_ ?_); focus first | exact True.intro | omega | (intros; (with_reducible and_intros) <;> first | (with_reducible assumption) | omega; done) | (simp; done) | (simp; omega))
        repeat (first | ((with_reducible refine AWp.ofC ?_ ?_); (focus exact rfl); simp only [go_sem]) | ((with_reducible refine And.intro ?_ ?_); focus first | exact True.intro | omega | (intros; (with_reducible and_intros) <;> first | (with_reducible assumption) | omega; done)))
        refine ⟨_, List.Sublist.refl _, ?_⟩
        rw [← hus, List.map_set]
        congr 4
        simp; omega
      · repeat (first | ((with_reducible refine AWp.ofC ?_ ?_); (focus exact rfl); simp only [go_sem]) | ((with_reducible refine And.intro ?_ ?_); focus first | exact True.intro | omega | (intros; (with_reducible and_intros) <;> first | (with_reducible assumption) | omega; done)))
        refine ⟨_, List.Sublist.refl _, ?_⟩
        rw [← hus]
        congr 4
        have e : min out[j] l[i][j] = out[j] := by omega
        rw [e]
        have := hcj (by omega)
        rw [← this]
        exact (List.set_getElem_self _).symm
    · repeat (first | ((with_reducible refine AWp.ofC ?_ ?_); (focus exact rfl); simp only [go_sem]) | ((with_reducible refine And.intro ?_ ?_); focus first | exact True.intro | omega | (intros; (with_reducible and_intros) <;> first | (with_reducible assumption) | omega; done)))
      refine ⟨_, List.Sublist.refl _, ?_⟩
      rw [hsu, List.take_of_length_le (by omega), List.drop_of_length_le (by omega), List.append_nil]
  · repeat (first | ((with_reducible refine AWp.ofC ?_ ?_); (focus exact rfl); simp only [go_sem]) | ((with_reducible refine And.intro ?_ ?_); focus first | exact True.intro | omega | (intros; (with_reducible and_intros) <;> first | (with_reducible assumption) | omega; done)))
    refine ret_view [true] ?_; simp only [go_sem]
    have hzz := hz i
    rw [List.take_of_length_le (by omega)] at hzz ⊢
    rw [hend] at hzz ⊢
    exact Vw.ofLs (if_pos rfl) (by rw [List.length_map]; exact hzz.symm)
theorem ref49_Known (l : List (List Int)) (h1 : 1 ≤ l.length) (h2 : l.length ≤ 1000000) (hr : ∀ row ∈ l, row.length = l.length) : PC Go.Proofs.Try.prog 28 [aRows l] (aInts (foldF max l)) := by
  obtain ⟨r0, rs, rfl⟩ : ∃ r0 rs, l = r0 :: rs := by cases l with | nil => simp at h1 | cons a b => exact ⟨a, b, rfl⟩
  have h0 : r0.length = (r0 :: rs).length := hr r0 (by simp)
  have hz : ∀ k, ((((r0 :: rs).take k).foldl (List.zipWith max) r0)).length = (r0 :: rs).length := fun k => foldl_len max _ _ (fun r hr' => hr r (List.mem_of_mem_take hr')) r0 h0
  have hend : (r0 :: rs).foldl (List.zipWith max) r0 = foldF max (r0 :: rs) := by
    have : List.zipWith max r0 r0 = r0 := by
      apply List.ext_getElem?
      intro i
      rw [List.getElem?_zipWith]
      cases r0[i]? with
      | none => rfl
      | some x => simp
    simp only [foldF, List.foldl_cons, this]
  have hhead : (r0 :: rs)[0]? = some r0 := rfl
  have hpos : 0 < (r0 :: rs).length := by simp
  have hg0 : (List.map aInts (r0 :: rs)).getD 0 .any = aInts r0 := rfl
  generalize hl : r0 :: rs = l at *
  refine PC.enter 46 [.tmp 2] [] Go.Proofs.Try.func28 rfl rfl rfl rfl rfl (by simp) (AWp.of ?_); simp only [go_sem]
  repeat ((with_reducible refine And.intro ?_ ?_); focus first | exact True.intro | omega | (intros; (with_reducible and_intros) <;> first | (with_reducible assumption) | omega; done) | (simp; done) | (simp; omega))
  refine AWp.of ?_; simp only [go_sem, hg0]
  intro b
  repeat ((with_reducible refine And.intro ?_ ?_); focus first | exact True.intro | omega | (intros; (with_reducible and_intros) <;> first | (with_reducible assumption) | omega; done) | (simp; done) | (simp; omega))
  intro b' cap' _
  rw [h0]
  repeat (first | ((with_reducible refine AWp.ofC ?_ ?_); (focus exact rfl); simp only [go_sem]) | ((with_reducible refine And.intro ?_ ?_); focus first | exact True.intro | omega | (intros; (with_reducible and_intros) <;> first | (with_reducible assumption) | omega; done)))
  refine AWp.block (AWp.count 4 l.length [] [0, 3] (fun i vs L => L = [(b', .row 3 1 (((l.take i).foldl (List.zipWith max) r0).map ai) cap')]) rfl rfl rfl ?_)
  rintro i vs L' hi - rfl
  simp only [go_sem]
  repeat (first | ((with_reducible refine AWp.ofC ?_ ?_); (focus exact rfl); simp only [go_sem]) | ((with_reducible refine And.intro ?_ ?_); focus first | exact True.intro | omega | (intros; (with_reducible and_intros) <;> first | (with_reducible assumption) | omega; done)))
  refine ⟨fun h3 => ?_, fun h3 => ?_⟩
  · have hil : i < l.length := by omega
    have hrk := hr _ (List.getElem_mem hil)
    have hck := hz i
    have hsu := foldF_take max l i hil r0
    generalize (l.take i).foldl (List.zipWith max) r0 = out at *
    have hzl : (List.zipWith max out l[i]).length = out.length := by rw [List.length_zipWith]; omega
    repeat (first | ((with_reducible refine AWp.ofC ?_ ?_); (focus exact rfl); simp only [go_sem]) | ((with_reducible refine And.intro ?_ ?_); focus first | exact True.intro | omega | (intros; (with_reducible and_intros) <;> first | (with_reducible assumption) | omega; done)))
    refine AWp.block (AWp.count 5 l.length [] [0, 3, 4] (fun j vs L => L = [(b', .row 3 1 (((List.zipWith max out l[i]).take j ++ out.drop j).map ai) cap')]) rfl rfl (by simp) ?_)
    rintro j vs L' hj - rfl
    simp only [go_sem]
    repeat (first | ((with_reducible refine AWp.ofC ?_ ?_); (focus exact rfl); simp only [go_sem]) | ((with_reducible refine And.intro ?_ ?_); focus first | exact True.intro | omega | (intros; (with_reducible and_intros) <;> first | (with_reducible assumption) | omega; done)))
    refine ⟨fun h5 => ?_, fun h5 => ?_⟩
    · have hjr : j < l[i].length := by omega
      have hjo : j < out.length := by omega
      have hgd : (List.map ai ((List.zipWith max out l[i]).take j ++ out.drop j)).getD j .any = ai out[j] := by
        rw [List.getD_eq_getElem?_getD, List.getElem?_map, upd_get hzl hjo]; rfl
      have hus := upd_set hzl hjo
      have hzj : (List.zipWith max out l[i])[j]'(by omega) = max out[j] l[i][j] := List.getElem_zipWith
      rw [hzj] at hus
      have hul : ((List.zipWith max out l[i]).take j ++ out.drop j).length = l.length := by rw [List.length_append, List.length_take, List.length_drop]; omega
      have hcj : ∀ h : j < ((List.zipWith max out l[i]).take j ++ out.drop j).length, ((List.zipWith max out l[i]).take j ++ out.drop j)[j] = out[j] := fun h => by
        have := upd_get hzl hjo
        rw [List.getElem?_eq_getElem h] at this
        exact Option.some.inj this
      have hset : (List.map ai ((List.zipWith max out l[i]).take j ++ out.drop j)).set j (ai l[i][j]) = List.map ai (((List.zipWith max out l[i]).take j ++ out.drop j).set j l[i][j]) := by rw [List.map_set]
      refine AWp.seq (AWp.block (AWp.seq ?_))
      refine AWp.drawn mixed 12 (by kernel_rfl) ?_; simp only [go_sem, getD_map hil, getD_map hjr, hgd]
      repeat ((with_reducible refine And.intro ?_ ?_); focus first | exact True.intro | omega | (intros; (with_reducible and_intros) <;> first | (with_reducible assumption) | omega; done) | (simp; done) | (simp; omega))
      repeat (first | ((with_reducible refine AWp.ofC ?_ ?_); (focus exact rfl); simp only [go_sem, getD_map hil, getD_map hjr, hgd]) | ((with_reducible refine And.intro ?_ ?_); focus first | exact True.intro | omega | (intros; (with_reducible and_intros) <;> first | (with_reducible assumption) | omega; done)))
      refine ⟨fun h6 => ?_, fun h6 => ?_⟩
      · repeat ((with_reducible refine And.intro ?_ ?_); focus first | exact True.intro | omega | (intros; (with_reducible and_intros) <;> first | (with_reducible assumption) | omega; done) | (simp; done) | (simp; omega))
        repeat (first | ((with_reducible refine AWp.ofC ?_ ?_); (focus exact rfl); simp only [go_sem]) | ((with_reducible refine And.intro ?_ ?_); focus first | exact True.intro | omega | (intros; (with_reducible and_intros) <;> first | (with_reducible assumption) | omega; done)))
        refine ⟨_, List.Sublist.refl _, ?_⟩
        rw [← hus, List.map_set]
        congr 4
        simp; omega
      · repeat (first | ((with_reducible refine AWp.ofC ?_ ?_); (focus exact rfl); simp only [go_sem]) | ((with_reducible refine And.intro ?_ ?_); focus first | exact True.intro | omega | (intros; (with_reducible and_intros) <;> first | (with_reducible assumption) | omega; done)))
        refine ⟨_, List.Sublist.refl _, ?_⟩
        rw [← hus]
        congr 4
        have e : max out[j] l[i][j] = out[j] := by omega
        rw [e]
        have := hcj (by omega)
        rw [← this]
        exact (List.set_getElem_self _).symm
    · repeat (first | ((with_reducible refine AWp.ofC ?_ ?_); (focus exact rfl); simp only [go_sem]) | ((with_reducible refine And.intro ?_ ?_); focus first | exact True.intro | omega | (intros; (with_reducible and_intros) <;> first | (with_reducible assumption) | omega; done)))
      refine ⟨_, List.Sublist.refl _, ?_⟩
      rw [hsu, List.take_of_length_le (by omega), List.drop_of_length_le (by omega), List.append_nil]
  · repeat (first | ((with_reducible refine AWp.ofC ?_ ?_); (focus exact rfl); simp only [go_sem]) | ((with_reducible refine And.intro ?_ ?_); focus first | exact True.intro | omega | (intros; (with_reducible and_intros) <;> first | (with_reducible assumption) | omega; done)))
    refine ret_view [true] ?_; simp only [go_sem]
    have hzz := hz i
    rw [List.take_of_length_le (by omega)] at hzz ⊢
    rw [hend] at hzz ⊢
    exact Vw.ofLs (if_pos rfl) (by rw [List.length_map]; exact hzz.symm)
theorem ref49_Kept (l : List (List Int)) (h1 : 1 ≤ l.length) (h2 : l.length ≤ 1000000) (hr : ∀ row ∈ l, row.length = l.length) (hB : ∀ r ∈ l, ∀ n ∈ r, 0 ≤ n ∧ n ≤ 1000000) : PC Go.Proofs.Try.prog 13 [aRows l] (ai (keptF l)) := by
  have hlm := foldF_len (f := min) h1 hr
  have hlM := foldF_len (f := max) h1 hr
  have hkb := kept_bound hB
  have hzl : (kZ l).length = l.length := by unfold kZ; rw [List.length_zipWith]; omega
  have hzg : ∀ j (hj : j < l.length), (kZ l)[j]'(by omega) = (foldF max l)[j]'(by omega) - (foldF min l)[j]'(by omega) := fun j hj => List.getElem_zipWith
  have hmm : ∀ n ∈ foldF max l, 0 ≤ n ∧ n ≤ 1000000 := foldF_mem (p := fun n => 0 ≤ n ∧ n ≤ 1000000) (fun a b ha hb => by omega) hB
  have hmn : ∀ n ∈ foldF min l, 0 ≤ n ∧ n ≤ 1000000 := foldF_mem (p := fun n => 0 ≤ n ∧ n ≤ 1000000) (fun a b ha hb => by omega) hB
  refine PC.enter 29 [.tmp 2] [] Go.Proofs.Try.func13 rfl rfl rfl rfl rfl (by simp) (AWp.of ?_); simp only [go_sem]
  repeat (first | ((with_reducible refine AWp.ofC ?_ ?_); (focus exact rfl); simp only [go_sem]) | ((with_reducible refine And.intro ?_ ?_); focus first | exact True.intro | omega | (intros; (with_reducible and_intros) <;> first | (with_reducible assumption) | omega; done)))
  repeat ((with_reducible refine And.intro ?_ ?_); focus first | exact True.intro | omega | (intros; (with_reducible and_intros) <;> first | (with_reducible assumption) | omega; done) | (simp; done) | (simp; omega))
  refine (ref49_Stable l h1 h2 hr).val.use ?_; simp only [go_sem]
  repeat ((with_reducible refine And.intro ?_ ?_); focus first | exact True.intro | omega | (intros; (with_reducible and_intros) <;> first | (with_reducible assumption) | omega; done) | (simp; done) | (simp; omega))
  refine (ref49_Known l h1 h2 hr).val.use ?_; simp only [go_sem]
  repeat (first | ((with_reducible refine AWp.ofC ?_ ?_); (focus exact rfl); simp only [go_sem]) | ((with_reducible refine And.intro ?_ ?_); focus first | exact True.intro | omega | (intros; (with_reducible and_intros) <;> first | (with_reducible assumption) | omega; done)))
  refine AWp.block (AWp.count 6 l.length [5] [3, 4] (fun j vs L => L = [] ∧ vs = [ai ((kZ l).take j).sum]) rfl rfl ⟨rfl, rfl⟩ ?_)
  rintro j vs L' hj - ⟨rfl, rfl⟩
  simp only [go_sem, hlm]
  repeat (first | ((with_reducible refine AWp.ofC ?_ ?_); (focus exact rfl); simp only [go_sem, hlm]) | ((with_reducible refine And.intro ?_ ?_); focus first | exact True.intro | omega | (intros; (with_reducible and_intros) <;> first | (with_reducible assumption) | omega; done)))
  refine ⟨fun h3 => ?_, fun h3 => ?_⟩
  · have hjl : j < l.length := by omega
    have hjM : j < (foldF max l).length := by omega
    have hjm : j < (foldF min l).length := by omega
    have hsu := sum_take (kZ l) j (by omega)
    have hb := sum_bound (Z := (kZ l).take j) (fun z hz => hkb z (List.mem_of_mem_take hz))
    have htl : ((kZ l).take j).length ≤ 1000000 := by rw [List.length_take]; omega
    have hb1 := hmm _ (List.getElem_mem hjM)
    have hb2 := hmn _ (List.getElem_mem hjm)
    rw [hzg j hjl] at hsu
    refine AWp.seq (AWp.block ?_)
    refine AWp.drawn mixed 12 (by kernel_rfl) ?_; simp only [go_sem, getD_map hjM, getD_map hjm]
    repeat ((with_reducible refine And.intro ?_ ?_); focus first | exact True.intro | omega | (intros; (with_reducible and_intros) <;> first | (with_reducible assumption) | omega; done) | (simp; done) | (simp; omega))
    repeat (first | ((with_reducible refine AWp.ofC ?_ ?_); (focus exact rfl); simp only [go_sem]) | ((with_reducible refine And.intro ?_ ?_); focus first | exact True.intro | omega | (intros; (with_reducible and_intros) <;> first | (with_reducible assumption) | omega; done)))
    exact ⟨_, List.Sublist.refl _, rfl, by rw [hsu, ← Int.add_sub_assoc]⟩
  · repeat (first | ((with_reducible refine AWp.ofC ?_ ?_); (focus exact rfl); simp only [go_sem]) | ((with_reducible refine And.intro ?_ ?_); focus first | exact True.intro | omega | (intros; (with_reducible and_intros) <;> first | (with_reducible assumption) | omega; done)))
    refine ret_eq ?_; simp only [go_sem]
    unfold keptF; rw [List.take_of_length_le (by omega)]
theorem ints_equal (a b : List Int) (ha : a.length ≤ 1000000) : PC Go.Proofs.Try.prog 11 [aInts a, aInts b] (ab (decide (a = b))) := by
  refine PC.enter 26 [.tmp 4] [] Go.Proofs.Try.func11 rfl rfl rfl rfl rfl (by simp) (AWp.of ?_); simp only [go_sem]
  repeat (first | ((with_reducible refine AWp.ofC ?_ ?_); (focus exact rfl); simp only [go_sem]) | ((with_reducible refine And.intro ?_ ?_); focus first | exact True.intro | omega | (intros; (with_reducible and_intros) <;> first | (with_reducible assumption) | omega; done)))
  refine ⟨fun h1 => ?_, fun h1 => ?_⟩
  · repeat (first | ((with_reducible refine AWp.ofC ?_ ?_); (focus exact rfl); simp only [go_sem]) | ((with_reducible refine And.intro ?_ ?_); focus first | exact True.intro | omega | (intros; (with_reducible and_intros) <;> first | (with_reducible assumption) | omega; done)))
    refine ret_eq ?_; simp only [go_sem]
    congr 2; symm; apply decide_eq_false; rintro rfl; exact h1 rfl
  · have hab : a.length = b.length := by omega
    repeat ((with_reducible refine And.intro ?_ ?_); focus first | exact True.intro | omega | (intros; (with_reducible and_intros) <;> first | (with_reducible assumption) | omega; done) | (simp; done) | (simp; omega))
    refine AWp.of ?_; simp only [go_sem]
    refine AWp.range' a.length [] [0, 1, 12] (fun k vs L => L = [] ∧ ∀ (i : Nat) (hi : i < a.length), i < k → a[i] = b[i]) (by omega) rfl rfl rfl ⟨rfl, by omega⟩ ?_ ?_
    · rintro k vs L' hk - ⟨rfl, hI⟩
      have hkb : k < b.length := by omega
      simp only [go_sem]
      repeat (first | ((with_reducible refine AWp.ofC ?_ ?_); (focus exact rfl); simp only [go_sem]) | ((with_reducible refine And.intro ?_ ?_); focus first | exact True.intro | omega | (intros; (with_reducible and_intros) <;> first | (with_reducible assumption) | omega; done)))
      refine AWp.seq ?_
      refine AWp.drawn mixed 9 (by kernel_rfl) ?_; simp only [go_sem, getD_map hk, getD_map hkb]
      repeat ((with_reducible refine And.intro ?_ ?_); focus first | exact True.intro | omega | (intros; (with_reducible and_intros) <;> first | (with_reducible assumption) | omega; done) | (simp; done) | (simp; omega))
      repeat (first | ((with_reducible refine AWp.ofC ?_ ?_); (focus exact rfl); simp only [go_sem]) | ((with_reducible refine And.intro ?_ ?_); focus first | exact True.intro | omega | (intros; (with_reducible and_intros) <;> first | (with_reducible assumption) | omega; done)))
      refine ⟨fun h2 => ?_, fun h2 => ?_⟩
      · repeat (first | ((with_reducible refine AWp.ofC ?_ ?_); (focus exact rfl); simp only [go_sem]) | ((with_reducible refine And.intro ?_ ?_); focus first | exact True.intro | omega | (intros; (with_reducible and_intros) <;> first | (with_reducible assumption) | omega; done)))
        refine ret_eq ?_; simp only [go_sem]
        congr 2; symm; apply decide_eq_false; rintro rfl; exact h2 rfl
      · refine ⟨_, List.Sublist.refl _, rfl, fun i hi hik => ?_⟩
        by_cases e : i = k
        · subst e; exact h2
        · exact hI i hi (by omega)
    · rintro vs L' - ⟨rfl, hI⟩
      simp only [go_sem]
      repeat (first | ((with_reducible refine AWp.ofC ?_ ?_); (focus exact rfl); simp only [go_sem]) | ((with_reducible refine And.intro ?_ ?_); focus first | exact True.intro | omega | (intros; (with_reducible and_intros) <;> first | (with_reducible assumption) | omega; done)))
      refine ret_eq ?_; simp only [go_sem]
      congr 2; symm; apply decide_eq_true
      exact List.ext_getElem hab (fun i h1 h2 => hI i h1 h1)
end Go.AL
