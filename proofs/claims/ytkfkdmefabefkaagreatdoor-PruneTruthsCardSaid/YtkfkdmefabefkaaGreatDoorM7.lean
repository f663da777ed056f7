/- Texts of this claim's proof: WStp2, WRk, WSame, WDrop, WDv, AlFam, WRf1. No condition. -/
import Derived.Test.YtkfkdmefabefkaaGreatDoorM6
import Derived.Test.YtkfkdmefabefkaaGreatDoorM4
import Derived.Test.YtkfkdmefabefkaaGreatDoorM5
section
/- Vector clocks, plainly: senders, sums, and what is kept in an execution. No condition. -/
namespace Go.AL
open Go Go.RowKit
set_option maxRecDepth 4000
theorem valid_parts {ps : List Pr} (h : validF ps = true) : procFirst ps = none ∧ evFirst ps = none ∧ msgF ps = none := by
  have hp : ∀ x, procFirst ps = some x → x.2 ≠ 0 := fun x hx => by
    unfold procFirst at hx
    rw [Option.map_eq_some_iff] at hx
    obtain ⟨k, hk, rfl⟩ := hx
    simpa using List.find?_some hk
  have he : ∀ x, evFirst ps = some x → x.2 ≠ 0 := fun x hx => by
    unfold evFirst at hx
    rw [Option.map_eq_some_iff] at hx
    obtain ⟨k, hk, rfl⟩ := hx
    simpa using List.find?_some hk
  have hmm : ∀ x, msgF ps = some x → x.2 ≠ 0 := fun x hx => by
    unfold msgF at hx
    split at hx
    · rename_i k hk
      cases hx
      simpa using List.find?_some hk
    · cases hx
  unfold validF faultF at h
  simp only [decide_eq_true_eq] at h
  split at h
  · simp at h
  · cases hpf : procFirst ps with
    | some x => rw [hpf] at h; exact absurd h (hp x hpf)
    | none =>
      rw [hpf] at h
      cases hef : evFirst ps with
      | some x => rw [hef] at h; exact absurd h (he x hef)
      | none =>
        rw [hef] at h
        cases hmf : msgF ps with
        | some x => rw [hmf] at h; exact absurd h (hmm x hmf)
        | none => exact ⟨rfl, rfl, rfl⟩
theorem valid_formed {ps : List Pr} (h : validF ps = true) : Formed ps := formed_of_evFirst (valid_parts h).2.1
/-- No two events send one number. -/
theorem valid_unique {ps : List Pr} (h : validF ps = true) {p : Nat} (hp : p < ps.length) {i : Nat} (hi : i < ps[p].evs.length) (hk : ps[p].evs[i].kind = 2) : sndr ps ps[p].evs[i].msg = ((p : Int), (i : Int) + 1) := by
  have hev := evIds_get hp hi
  have hlt : off ps p + i < (evIds ps).length := (List.getElem?_eq_some_iff.1 hev).1
  have hpz : pairF ps (off ps p + i) = 0 := by
    have hm := (valid_parts h).2.2
    unfold msgF at hm
    split at hm
    · cases hm
    · rename_i hn
      rw [List.find?_eq_none] at hn
      simpa using hn _ (List.mem_range.2 hlt)
  unfold pairF at hpz
  rw [hev] at hpz
  simp only [hk, if_true] at hpz
  have hno : ¬ 0 < (findIn ((evIds ps).take (off ps p + i)) 2 ps[p].evs[i].msg).2 := by
    intro h0; rw [if_pos h0] at hpz; cases hpz
  unfold sndr
  refine findIn_hit hev (fun j y hj hy hc => hno ?_) ⟨hk, rfl⟩
  have hmem : y ∈ (evIds ps).take (off ps p + i) := by
    refine List.mem_of_getElem? (i := j) ?_
    rw [List.getElem?_take, if_pos hj]; exact hy
  unfold findIn
  cases hf : ((evIds ps).take (off ps p + i)).find? (fun x => decide (x.2.kind = 2) && decide (x.2.msg = ps[p].evs[i].msg)) with
  | some x => exact evIds_pos ps x (List.mem_of_mem_take (List.mem_of_find?_eq_some hf))
  | none =>
    rw [List.find?_eq_none] at hf
    have := hf y hmem
    simp [hc.1, hc.2] at this
theorem sndr_some {ps : List Pr} {m : Int} (h : 0 < (sndr ps m).2) : ∃ (p : Nat) (hp : p < ps.length) (i : Nat) (hi : i < ps[p].evs.length), sndr ps m = ((p : Int), (i : Int) + 1) ∧ ps[p].evs[i].kind = 2 ∧ ps[p].evs[i].msg = m := by
  obtain ⟨e, he, h1, h2⟩ := findIn_mem h
  obtain ⟨k, hk⟩ := List.getElem?_of_mem he
  obtain ⟨p, hp, i, hi, _, e2⟩ := evIds_inv hk
  have e3 := congrArg Prod.fst e2
  have e4 := congrArg Prod.snd e2
  dsimp only at e3 e4
  subst e4
  exact ⟨p, hp, i, hi, e3, h1, h2⟩
/-- What lies in the table of messages sent. -/
def sentA (ps : List Pr) (S : Nat → List (List Int)) (m : Int) : AV :=
  if 0 < (sndr ps m).2 ∧ (sndr ps m).2 ≤ (S (sndr ps m).1.toNat).length then aInts (stOf S (sndr ps m).1.toNat ((sndr ps m).2 - 1).toNat) else anil
theorem sentA_init (ps : List Pr) (m : Int) : sentA ps (fun _ => []) m = anil := by
  unfold sentA
  rw [if_neg (by simp)]
theorem sentA_step {ps : List Pr} {S : Nat → List (List Int)} (hv : validF ps = true) {p : Nat} (hr : Rdy ps (lenS S) p) (v : List Int) (m : Int) :
    sentA ps (upS S p v) m = if (evq ps p (S p).length).kind = 2 ∧ (evq ps p (S p).length).msg = m then aInts v else sentA ps S m := by
  obtain ⟨hp, hl, _⟩ := hr
  simp only [lenS] at hl
  have hl' : (S p).length < ps[p].evs.length := by rw [nev_get hp] at hl; exact hl
  rw [evq_get hp hl']
  by_cases hc : ps[p].evs[(S p).length].kind = 2 ∧ ps[p].evs[(S p).length].msg = m
  · rw [if_pos hc]
    have hs := valid_unique hv hp hl' hc.1
    rw [hc.2] at hs
    unfold sentA
    rw [hs]
    simp only [Int.toNat_natCast]
    have e : ((((S p).length : Int) + 1) - 1).toNat = (S p).length := by omega
    rw [e, upS_new, if_pos]
    rw [upS_len, if_pos rfl]
    omega
  · rw [if_neg hc]
    unfold sentA
    by_cases h0 : 0 < (sndr ps m).2
    · obtain ⟨q, hq, i, hi, e, k1, k2⟩ := sndr_some h0
      rw [e]
      simp only [Int.toNat_natCast]
      have e1 : (((i : Int) + 1) - 1).toNat = i := by omega
      rw [e1]
      have hiff : (i : Int) + 1 ≤ (upS S p v q).length ↔ (i : Int) + 1 ≤ (S q).length := by
        rw [upS_len]
        by_cases eq : q = p
        · subst eq
          rw [if_pos rfl]
          have : i ≠ (S q).length := fun ei => by subst ei; exact hc ⟨k1, k2⟩
          omega
        · rw [if_neg eq]
      by_cases hin : (i : Int) + 1 ≤ (S q).length
      · rw [if_pos ⟨by omega, hiff.2 hin⟩, if_pos ⟨by omega, hin⟩, upS_old (by omega)]
      · rw [if_neg fun h => hin (hiff.1 h.2), if_neg fun h => hin h.2]
    · rw [if_neg fun h => h0 h.1, if_neg fun h => h0 h.1]
def totS (n : Nat) (c : Nat → Nat) : Nat := ((List.range n).map c).sum
theorem totS_succ (n : Nat) (c : Nat → Nat) : totS (n + 1) c = totS n c + c n := by simp [totS, List.range_succ]
theorem totS_bump {c c' : Nat → Nat} {p : Nat} (h : ∀ q, c' q = if q = p then c q + 1 else c q) (n : Nat) : totS n c' = totS n c + if p < n then 1 else 0 := by
  induction n with
  | zero => simp [totS]
  | succ n ih =>
    rw [totS_succ, totS_succ, ih, h n]
    by_cases e : n = p
    · subst e; rw [if_pos rfl, if_neg (by omega), if_pos (by omega)]; omega
    · rw [if_neg e]
      by_cases h1 : p < n
      · rw [if_pos h1, if_pos (by omega)]; omega
      · rw [if_neg h1, if_neg (by omega)]; omega
theorem totS_up {S : Nat → List (List Int)} {p n : Nat} (hp : p < n) (v : List Int) : totS n (lenS (upS S p v)) = totS n (lenS S) + 1 := by
  rw [totS_bump (c := lenS S) (p := p) (fun q => by unfold lenS; rw [upS_len]; split <;> simp_all) n, if_pos hp]
theorem totS_le {c : Nat → Nat} {B : Nat} (n : Nat) (h : ∀ q, q < n → c q ≤ B) : totS n c ≤ n * B := by
  induction n with
  | zero => simp [totS]
  | succ n ih =>
    rw [totS_succ, Nat.add_mul]
    have := ih fun q hq => h q (by omega)
    have := h n (by omega)
    omega
theorem totS_done {order : List Int} {n k : Nat} (hk : k ≤ order.length) (h : ∀ j, j < k → 0 ≤ order.getD j 0 ∧ order.getD j 0 < n) : totS n (doneF order k) = k := by
  induction k with
  | zero =>
    have : totS n (doneF order 0) ≤ n * 0 := totS_le n fun q _ => by rw [doneF_zero]; omega
    omega
  | succ k ih =>
    have h0 := h k (by omega)
    have hi := ih (by omega) fun j hj => h j (by omega)
    rw [totS_bump (c := doneF order k) (p := (order.getD k 0).toNat) (fun q => by
      rw [doneF_succ (by omega) h0.1]
      by_cases e : q = (order.getD k 0).toNat
      · rw [if_pos e, if_pos e.symm]
      · rw [if_neg e, if_neg (Ne.symm e), Nat.add_zero]) n, if_pos (by omega), hi]
theorem gen_exists {ps : List Pr} (hs : Sm ps) : ∃ S, Gen ps S ∧ ∀ p, ¬ Rdy ps (lenS S) p := by
  have hb : ∀ S, Gen ps S → totS ps.length (lenS S) ≤ ps.length * 1000000 := fun S h => totS_le _ fun q hq => by
    have h1 := h.le_nev q
    rw [nev_get hq] at h1
    have h2 := hs.evs _ (List.getElem_mem hq)
    unfold lenS; omega
  have key : ∀ m S, Gen ps S → ps.length * 1000000 - totS ps.length (lenS S) ≤ m → ∃ S, Gen ps S ∧ ∀ p, ¬ Rdy ps (lenS S) p := by
    intro m
    induction m with
    | zero =>
      intro S h hm
      refine ⟨S, h, fun p hr => ?_⟩
      have h1 := hb _ (h.step hr)
      rw [totS_up hr.1] at h1
      omega
    | succ m ih =>
      intro S h hm
      by_cases hx : ∃ p, Rdy ps (lenS S) p
      · obtain ⟨p, hr⟩ := hx
        refine ih _ (h.step hr) ?_
        rw [totS_up hr.1]
        omega
      · exact ⟨S, h, fun p hr => hx ⟨p, hr⟩⟩
  exact key _ _ .init (Nat.le_refl _)
theorem stampF_gen {ps : List Pr} (hs : Sm ps) : Gen ps (stampF ps) ∧ ∀ p, ¬ Rdy ps (lenS (stampF ps)) p := by
  obtain ⟨S, h, hm⟩ := gen_exists hs
  rw [stampF_eq h hm]; exact ⟨h, hm⟩
/-! ### What is kept -/
theorem zip_getD (f : Int → Int → Int) {a b : List Int} {n j : Nat} (ha : a.length = n) (hb : b.length = n) (hj : j < n) : (List.zipWith f a b).getD j 0 = f (a.getD j 0) (b.getD j 0) := by
  rw [List.getD_eq_getElem?_getD, List.getElem?_zipWith]
  simp [show j < a.length by omega, show j < b.length by omega]
theorem foldl_col {f : Int → Int → Int} {P : Int → Prop} (hf : ∀ a b, P a → P b → P (f a b)) {n j : Nat} (hj : j < n) : ∀ (rs : List (List Int)) (r0 : List Int), r0.length = n → (∀ r ∈ rs, r.length = n) → P (r0.getD j 0) → (∀ r ∈ rs, P (r.getD j 0)) →
    P ((rs.foldl (List.zipWith f) r0).getD j 0)
  | [], _, _, _, h, _ => h
  | r :: rs, r0, hl, hrl, h, hr => foldl_col hf hj rs _ (by rw [List.length_zipWith, hl, hrl r (by simp)]; omega) (fun r' h' => hrl r' (List.mem_cons_of_mem _ h'))
      (by rw [zip_getD f hl (hrl r (by simp)) hj]; exact hf _ _ h (hr r (by simp))) (fun r' h' => hr r' (List.mem_cons_of_mem _ h'))
/-- A value that each step keeps within a bound stays within it. -/
theorem foldl_keep {f : Int → Int → Int} {P : Int → Prop} (hf : ∀ a b, P a → P (f a b)) {n j : Nat} (hj : j < n) : ∀ (rs : List (List Int)) (r0 : List Int), r0.length = n → (∀ r ∈ rs, r.length = n) → P (r0.getD j 0) → P ((rs.foldl (List.zipWith f) r0).getD j 0)
  | [], _, _, _, h => h
  | r :: rs, r0, hl, hrl, h => foldl_keep hf hj rs _ (by rw [List.length_zipWith, hl, hrl r (by simp)]; omega) (fun r' h' => hrl r' (List.mem_cons_of_mem _ h')) (by rw [zip_getD f hl (hrl r (by simp)) hj]; exact hf _ _ h)
theorem foldl_hit {f : Int → Int → Int} {P : Int → Prop} (hf : ∀ a b, P a → P (f a b)) {n j : Nat} (hj : j < n) (hg : ∀ a b, P b → P (f a b)) : ∀ (rs : List (List Int)) (r0 : List Int), r0.length = n → (∀ r ∈ rs, r.length = n) → (∃ r ∈ rs, P (r.getD j 0)) → P ((rs.foldl (List.zipWith f) r0).getD j 0)
  | [], _, _, _, h => by obtain ⟨_, h, _⟩ := h; cases h
  | r :: rs, r0, hl, hrl, h => by
    have hzl : (List.zipWith f r0 r).length = n := by rw [List.length_zipWith, hl, hrl r (by simp)]; omega
    have hrl' : ∀ r' ∈ rs, r'.length = n := fun r' h' => hrl r' (List.mem_cons_of_mem _ h')
    obtain ⟨x, hx, hP⟩ := h
    rcases List.mem_cons.1 hx with rfl | hx
    · exact foldl_keep hf hj rs _ hzl hrl' (by rw [zip_getD f hl (hrl x (by simp)) hj]; exact hg _ _ hP)
    · exact foldl_hit hf hj hg rs _ hzl hrl' ⟨x, hx, hP⟩
theorem foldF_col {f : Int → Int → Int} {P : Int → Prop} (hf : ∀ a b, P a → P b → P (f a b)) {l : List (List Int)} {n j : Nat} (h1 : l ≠ []) (hl : ∀ r ∈ l, r.length = n) (hj : j < n) (h : ∀ r ∈ l, P (r.getD j 0)) : P ((foldF f l).getD j 0) := by
  cases l with
  | nil => exact absurd rfl h1
  | cons r0 rs => exact foldl_col hf hj rs r0 (hl r0 (by simp)) (fun r hr => hl r (List.mem_cons_of_mem _ hr)) (h r0 (by simp)) fun r hr => h r (List.mem_cons_of_mem _ hr)
theorem foldF_max {l : List (List Int)} {n j : Nat} (hl : ∀ r ∈ l, r.length = n) (hj : j < n) : ∀ r ∈ l, r.getD j 0 ≤ (foldF max l).getD j 0 := by
  cases l with
  | nil => intro r h; cases h
  | cons r0 rs =>
    intro r hr
    have hrl : ∀ r ∈ rs, r.length = n := fun r hr => hl r (List.mem_cons_of_mem _ hr)
    rcases List.mem_cons.1 hr with rfl | hr
    · exact foldl_keep (P := fun x => r.getD j 0 ≤ x) (fun a b h => by omega) hj rs r (hl r (by simp)) hrl (Int.le_refl _)
    · exact foldl_hit (P := fun x => r.getD j 0 ≤ x) (fun a b h => by omega) hj (fun a b h => by omega) rs r0 (hl r0 (by simp)) hrl ⟨r, hr, Int.le_refl _⟩
theorem foldF_min {l : List (List Int)} {n j : Nat} (hl : ∀ r ∈ l, r.length = n) (hj : j < n) : ∀ r ∈ l, (foldF min l).getD j 0 ≤ r.getD j 0 := by
  cases l with
  | nil => intro r h; cases h
  | cons r0 rs =>
    intro r hr
    have hrl : ∀ r ∈ rs, r.length = n := fun r hr => hl r (List.mem_cons_of_mem _ hr)
    rcases List.mem_cons.1 hr with rfl | hr
    · exact foldl_keep (P := fun x => x ≤ r.getD j 0) (fun a b h => by omega) hj rs r (hl r (by simp)) hrl (Int.le_refl _)
    · exact foldl_hit (P := fun x => x ≤ r.getD j 0) (fun a b h => by omega) hj (fun a b h => by omega) rs r0 (hl r0 (by simp)) hrl ⟨r, hr, Int.le_refl _⟩
theorem sum_le_tot {c : Nat → Nat} : ∀ (Z : List Int), (∀ j, j < Z.length → Z.getD j 0 ≤ c j) → Z.sum ≤ totS Z.length c := by
  intro Z
  have key : ∀ k, k ≤ Z.length → (∀ j, j < Z.length → Z.getD j 0 ≤ c j) → (Z.take k).sum ≤ totS k c := by
    intro k
    induction k with
    | zero => intro _ _; simp [totS]
    | succ k ih =>
      intro hk h
      rw [sum_take Z k (by omega), totS_succ]
      have h1 := ih (by omega) h
      have h2 := h k (by omega)
      have e : Z.getD k 0 = Z[k] := by simp [show k < Z.length by omega]
      rw [e] at h2
      omega
  intro h
  have := key Z.length (Nat.le_refl _) h
  rwa [List.take_length] at this
theorem sum_nonneg : ∀ (Z : List Int), (∀ z ∈ Z, 0 ≤ z) → 0 ≤ Z.sum
  | [], _ => by simp
  | z :: Z, h => by
    have h1 := h z (by simp)
    have h2 := sum_nonneg Z fun z hz => h z (List.mem_cons_of_mem _ hz)
    simp only [List.sum_cons]; omega
theorem sum_ge : ∀ (Z : List Int) {x : Int}, (∀ z ∈ Z, 0 ≤ z) → x ∈ Z → x ≤ Z.sum
  | [], _, _, hx => by cases hx
  | z :: Z, x, h, hx => by
    have h1 := h z (by simp)
    have h2 := sum_nonneg Z fun z hz => h z (List.mem_cons_of_mem _ hz)
    simp only [List.sum_cons]
    rcases List.mem_cons.1 hx with rfl | hx
    · omega
    · have := sum_ge Z (fun z hz => h z (List.mem_cons_of_mem _ hz)) hx; omega
noncomputable def knownF (ps : List Pr) (order : List Int) (k : Nat) : List (List Int) :=
  (List.range ps.length).map fun q => if doneF order k q = 0 then List.replicate ps.length 0 else stOf (stampF ps) q (doneF order k q - 1)
noncomputable def peakF (ps : List Pr) (order : List Int) : Nat → Int
  | 0 => 0
  | k + 1 => max (peakF ps order k) (keptF (knownF ps order (k + 1)))
theorem known_rows {ps : List Pr} (hg : Gen ps (stampF ps)) (hm : ∀ p, ¬ Rdy ps (lenS (stampF ps)) p) {order : List Int} {k : Nat} (hk : k ≤ order.length) (hr : RunOk ps order k) :
    ∀ r ∈ knownF ps order k, r.length = ps.length ∧ ∀ j, 0 ≤ r.getD j 0 ∧ r.getD j 0 ≤ doneF order k j := by
  intro r hmem
  unfold knownF at hmem
  obtain ⟨q, hq, rfl⟩ := List.mem_map.1 hmem
  by_cases h0 : doneF order k q = 0
  · rw [if_pos h0]
    exact ⟨by simp, fun j => by rw [zeros_getD]; omega⟩
  · rw [if_neg h0]
    have hle := run_le hm hk hr q
    exact ⟨(hg.bound q _ (by omega)).1, run_bound hg hm hk hr q _ (by omega)⟩
theorem known_len (ps : List Pr) (order : List Int) (k : Nat) : (knownF ps order k).length = ps.length := by simp [knownF]
theorem known_ne {ps : List Pr} (hn : 1 ≤ ps.length) (order : List Int) (k : Nat) : knownF ps order k ≠ [] := fun h => by
  have := known_len ps order k; rw [h] at this; simp at this; omega
theorem kZ_get {l : List (List Int)} {n j : Nat} (h1 : 1 ≤ l.length) (h : ∀ r ∈ l, r.length = n) (hj : j < n) : (kZ l).length = n ∧ (kZ l).getD j 0 = (foldF max l).getD j 0 - (foldF min l).getD j 0 := by
  have hM := foldF_len (f := max) h1 h
  have hm := foldF_len (f := min) h1 h
  refine ⟨by unfold kZ; rw [List.length_zipWith]; omega, ?_⟩
  unfold kZ
  exact zip_getD _ hM hm hj
theorem kZ_nonneg {l : List (List Int)} {n : Nat} (h1 : 1 ≤ l.length) (hn : 1 ≤ n) (h : ∀ r ∈ l, r.length = n) : ∀ z ∈ kZ l, 0 ≤ z := by
  intro z hz
  have hlen := (kZ_get h1 h (show 0 < n by omega)).1
  obtain ⟨j, hj, rfl⟩ := List.getElem_of_mem hz
  have hjn : j < n := by omega
  have e := (kZ_get h1 h hjn).2
  have e2 : (kZ l).getD j 0 = (kZ l)[j] := by simp [hj]
  cases l with
  | nil => simp at h1
  | cons r0 rs =>
    have a := foldF_max h hjn r0 (by simp)
    have b := foldF_min h hjn r0 (by simp)
    omega
/-- What is kept is at most what was executed. -/
theorem kept_le {ps : List Pr} (hn : 1 ≤ ps.length) (hg : Gen ps (stampF ps)) (hm : ∀ p, ¬ Rdy ps (lenS (stampF ps)) p) {order : List Int} {k : Nat} (hk : k ≤ order.length) (hr : RunOk ps order k) :
    0 ≤ keptF (knownF ps order k) ∧ keptF (knownF ps order k) ≤ k := by
  have hrow := known_rows hg hm hk hr
  have h1 : 1 ≤ (knownF ps order k).length := by rw [known_len]; exact hn
  have hl : ∀ r ∈ knownF ps order k, r.length = ps.length := fun r h => (hrow r h).1
  refine ⟨sum_nonneg _ (kZ_nonneg h1 hn hl), ?_⟩
  have hlen := (kZ_get h1 hl (show 0 < ps.length by omega)).1
  have hs := sum_le_tot (c := doneF order k) (kZ (knownF ps order k)) fun j hj => by
    have hjn : j < ps.length := by omega
    rw [(kZ_get h1 hl hjn).2]
    have a := foldF_col (f := max) (P := fun x => x ≤ (doneF order k j : Int)) (fun a b ha hb => by omega) (known_ne hn order k) hl hjn fun r h => ((hrow r h).2 j).2
    have b := foldF_col (f := min) (P := fun x => (0 : Int) ≤ x) (fun a b ha hb => by omega) (known_ne hn order k) hl hjn fun r h => ((hrow r h).2 j).1
    omega
  rw [hlen, totS_done hk fun j hj => ⟨(hr j hj).1, by have := (hr j hj).2.1; have := (hr j hj).1; omega⟩] at hs
  exact hs
/-- After the first step something is kept, if there are two processes. -/
theorem kept_first {ps : List Pr} (hn : 2 ≤ ps.length) (hg : Gen ps (stampF ps)) (hm : ∀ p, ¬ Rdy ps (lenS (stampF ps)) p) {order : List Int} (hk : 1 ≤ order.length) (hr : RunOk ps order 1) : 1 ≤ keptF (knownF ps order 1) := by
  have hrow := known_rows hg hm hk hr
  have h1 : 1 ≤ (knownF ps order 1).length := by rw [known_len]; omega
  have hl : ∀ r ∈ knownF ps order 1, r.length = ps.length := fun r h => (hrow r h).1
  obtain ⟨h0, hp, hlt, hk3⟩ := hr 0 (by omega)
  rw [doneF_zero] at hlt hk3
  have hle := run_le hm hk hr
  generalize hpd : (order.getD 0 0).toNat = p at *
  have hd : ∀ q, doneF order 1 q = if p = q then 1 else 0 := fun q => by
    have := doneF_succ (order := order) (k := 0) (by omega) h0 q
    rw [hpd, doneF_zero] at this
    simpa using this
  have hkind : (evq ps p 0).kind ≠ 3 := fun h3 => by
    have := hk3 h3; rw [doneF_zero] at this; omega
  have hst : stOf (stampF ps) p 0 = tickV (List.replicate ps.length 0) p := by
    have hlp : 0 < (stampF ps p).length := by have := hle p; rw [hd, if_pos rfl] at this; omega
    rw [(hg.eqn p 0 hlp).2.2.1]
    unfold vecV rawV preV
    rw [if_neg hkind, if_pos rfl]
  have hmemp : tickV (List.replicate ps.length 0) p ∈ knownF ps order 1 := by
    unfold knownF
    refine List.mem_map.2 ⟨p, List.mem_range.2 hp, ?_⟩
    rw [hd, if_pos rfl, if_neg (by omega)]
    exact hst
  obtain ⟨q, hq, hqp⟩ : ∃ q, q < ps.length ∧ p ≠ q := by
    by_cases e : p = 0
    · exact ⟨1, by omega, by omega⟩
    · exact ⟨0, by omega, e⟩
  have hmemq : List.replicate ps.length 0 ∈ knownF ps order 1 := by
    unfold knownF
    refine List.mem_map.2 ⟨q, List.mem_range.2 hq, ?_⟩
    rw [hd, if_neg hqp, if_pos rfl]
  have a := foldF_max hl hp _ hmemp
  have b := foldF_min hl hp _ hmemq
  rw [tickV_getD, if_pos ⟨rfl, by simpa using hp⟩, zeros_getD] at a
  rw [zeros_getD] at b
  have hz := kZ_get h1 hl hp
  have hge := sum_ge (kZ (knownF ps order 1)) (x := (kZ (knownF ps order 1)).getD p 0) (kZ_nonneg h1 (by omega) hl) (by
    have : p < (kZ (knownF ps order 1)).length := by omega
    rw [List.getD_eq_getElem?_getD, List.getElem?_eq_getElem this]
    exact List.getElem_mem this)
  unfold keptF
  omega
theorem RunOk.le {ps : List Pr} {order : List Int} {k j : Nat} (h : RunOk ps order k) (hj : j ≤ k) : RunOk ps order j := fun i hi => h i (by omega)
theorem peak_bounds {ps : List Pr} (hn : 1 ≤ ps.length) (hg : Gen ps (stampF ps)) (hm : ∀ p, ¬ Rdy ps (lenS (stampF ps)) p) {order : List Int} {k : Nat} (hk : k ≤ order.length) (hr : RunOk ps order k) :
    0 ≤ peakF ps order k ∧ peakF ps order k ≤ k ∧ (1 ≤ k → 2 ≤ ps.length → 1 ≤ peakF ps order k) := by
  induction k with
  | zero => exact ⟨Int.le_refl _, Int.le_refl _, fun h => by omega⟩
  | succ k ih =>
    obtain ⟨h1, h2, h3⟩ := ih (by omega) (hr.le (by omega))
    obtain ⟨h4, h5⟩ := kept_le hn hg hm hk hr
    refine ⟨by unfold peakF; omega, by unfold peakF; omega, fun _ h2p => ?_⟩
    by_cases e : k = 0
    · subst e
      have h6 := kept_first h2p hg hm hk hr
      have e1 : peakF ps order (0 + 1) = max (peakF ps order 0) (keptF (knownF ps order 1)) := rfl
      rw [e1]; omega
    · have := h3 (by omega) h2p
      unfold peakF; omega
theorem take_doneF {order : List Int} {k j : Nat} (hj : j ≤ k) : doneF (order.take k) j = doneF order j := by
  funext q
  unfold doneF
  rw [List.take_take, Nat.min_eq_left hj]
theorem take_RunOk {ps : List Pr} {order : List Int} {k j : Nat} (hj : j ≤ k) : RunOk ps (order.take k) j ↔ RunOk ps order j := by
  unfold RunOk
  refine forall_congr' fun i => imp_congr_right fun hi => ?_
  rw [take_doneF (by omega)]
  have : (order.take k).getD i 0 = order.getD i 0 := by
    rw [List.getD_eq_getElem?_getD, List.getElem?_take, if_pos (by omega), List.getD_eq_getElem?_getD]
  rw [this]
theorem take_peakF {ps : List Pr} {order : List Int} {k j : Nat} (hj : j ≤ k) : peakF ps (order.take k) j = peakF ps order j := by
  induction j with
  | zero => rfl
  | succ j ih =>
    unfold peakF
    rw [ih (by omega)]
    unfold knownF
    rw [take_doneF hj]
end Go.AL
end
section
/- Traces whose events can all be executed have no cycle; what comes directly before an event. No condition. -/
namespace Go.AL
open Go Go.RowKit
set_option maxRecDepth 4000
/-- No two events of one kind, send or receive, bear one number. -/
theorem pair_unique {ps : List Pr} (hm : msgF ps = none) {p : Nat} (hp : p < ps.length) {i : Nat} (hi : i < ps[p].evs.length) (hk : ps[p].evs[i].kind = 2 ∨ ps[p].evs[i].kind = 3) :
    findIn (evIds ps) ps[p].evs[i].kind ps[p].evs[i].msg = ((p : Int), (i : Int) + 1) := by
  have hev := evIds_get hp hi
  have hlt : off ps p + i < (evIds ps).length := (List.getElem?_eq_some_iff.1 hev).1
  have hpz : pairF ps (off ps p + i) = 0 := by
    unfold msgF at hm
    split at hm
    · cases hm
    · rename_i hn
      rw [List.find?_eq_none] at hn
      simpa using hn _ (List.mem_range.2 hlt)
  unfold pairF at hpz
  rw [hev] at hpz
  simp only at hpz
  have hno : ¬ 0 < (findIn ((evIds ps).take (off ps p + i)) ps[p].evs[i].kind ps[p].evs[i].msg).2 := by
    intro h0
    rcases hk with hk | hk
    · rw [if_pos hk] at hpz; rw [hk] at h0; rw [if_pos h0] at hpz; cases hpz
    · rw [if_neg (by omega), if_pos hk] at hpz; rw [hk] at h0; rw [if_pos h0] at hpz; cases hpz
  refine findIn_hit hev (fun j y hj hy hc => hno ?_) ⟨rfl, rfl⟩
  have hmem : y ∈ (evIds ps).take (off ps p + i) := by
    refine List.mem_of_getElem? (i := j) ?_
    rw [List.getElem?_take, if_pos hj]; exact hy
  unfold findIn
  cases hf : ((evIds ps).take (off ps p + i)).find? (fun x => decide (x.2.kind = ps[p].evs[i].kind) && decide (x.2.msg = ps[p].evs[i].msg)) with
  | some x => exact evIds_pos ps x (List.mem_of_mem_take (List.mem_of_find?_eq_some hf))
  | none =>
    rw [List.find?_eq_none] at hf
    have := hf y hmem
    simp [hc.1, hc.2] at this
theorem findIn_some {ps : List Pr} {kind m : Int} (h : 0 < (findIn (evIds ps) kind m).2) : ∃ (p : Nat) (hp : p < ps.length) (i : Nat) (hi : i < ps[p].evs.length), findIn (evIds ps) kind m = ((p : Int), (i : Int) + 1) ∧ ps[p].evs[i].kind = kind ∧ ps[p].evs[i].msg = m := by
  obtain ⟨e, he, h1, h2⟩ := findIn_mem h
  obtain ⟨k, hk⟩ := List.getElem?_of_mem he
  obtain ⟨p, hp, i, hi, _, e2⟩ := evIds_inv hk
  have e3 := congrArg Prod.fst e2
  have e4 := congrArg Prod.snd e2
  dsimp only at e3 e4
  subst e4
  exact ⟨p, hp, i, hi, e3, h1, h2⟩
/-- A receive has its send. -/
theorem recv_sndr {ps : List Pr} (hm : msgF ps = none) {p : Nat} (hp : p < ps.length) {i : Nat} (hi : i < ps[p].evs.length) (hk : ps[p].evs[i].kind = 3) : 0 < (sndr ps ps[p].evs[i].msg).2 := by
  have hev := evIds_get hp hi
  have hlt : off ps p + i < (evIds ps).length := (List.getElem?_eq_some_iff.1 hev).1
  have hpz : pairF ps (off ps p + i) = 0 := by
    unfold msgF at hm
    split at hm
    · cases hm
    · rename_i hn
      rw [List.find?_eq_none] at hn
      simpa using hn _ (List.mem_range.2 hlt)
  unfold pairF at hpz
  rw [hev] at hpz
  simp only at hpz
  rw [if_neg (by omega), if_pos hk] at hpz
  split at hpz
  · cases hpz
  · split at hpz
    · cases hpz
    · rename_i hs
      have hs' : sendsB ps ps[p].evs[i].peer ps[p].evs[i].msg p = true := by simpa using hs
      unfold sendsB at hs'
      split at hs'
      · rename_i x hx
        obtain ⟨q, hq, rfl⟩ : ∃ q, ∃ hq : q < ps.length, ps[q] = x := ⟨_, (List.getElem?_eq_some_iff.1 hx).1, (List.getElem?_eq_some_iff.1 hx).2⟩
        obtain ⟨e, he, h⟩ := List.any_eq_true.1 hs'
        simp only [Bool.and_eq_true, decide_eq_true_eq] at h
        obtain ⟨j, hj, rfl⟩ := List.getElem_of_mem he
        have hu := pair_unique hm hq hj (.inl h.1.1)
        unfold sndr
        rw [← h.1.2, ← h.1.1, hu]
        show (0 : Int) < (j : Int) + 1
        omega
      · cases hs'
/-- The events directly before one. -/
def dirL (ps : List Pr) (p i : Nat) : List Eid := (if 0 < i then [((p : Int), (i : Int))] else []) ++ (if (evq ps p i).kind = 3 then [sndr ps (evq ps p i).msg] else [])
theorem dirL_iff {ps : List Pr} (hm : msgF ps = none) {p : Nat} (hp : p < ps.length) {i : Nat} (hi : i < ps[p].evs.length) (z : Eid) : z ∈ dirL ps p i ↔ VEv ps z ∧ Nx ps z ((p : Int), (i : Int) + 1) := by
  unfold dirL
  rw [evq_get hp hi, List.mem_append]
  constructor
  · rintro (h | h)
    · split at h
      · rename_i h0
        simp only [List.mem_singleton] at h
        subst h
        refine ⟨⟨p, hp, i - 1, by omega, by rw [show ((i - 1 : Nat) : Int) + 1 = i by omega]⟩, ?_⟩
        unfold Nx afterL
        simp only [Int.toNat_natCast, List.getElem?_eq_getElem hp, show ((i : Int) - 1).toNat = i - 1 by omega, List.getElem?_eq_getElem (show i - 1 < ps[p].evs.length by omega), List.mem_append]
        refine .inl ?_
        rw [if_pos (by omega)]; simp
      · cases h
    · split at h
      · rename_i hk
        simp only [List.mem_singleton] at h
        have h0 := recv_sndr hm hp hi hk
        obtain ⟨q, hq, j, hj, e, k1, k2⟩ := sndr_some h0
        rw [h, e]
        refine ⟨⟨q, hq, j, hj, rfl⟩, ?_⟩
        unfold Nx afterL
        simp only [Int.toNat_natCast, List.getElem?_eq_getElem hq, show ((j : Int) + 1 - 1).toNat = j by omega, List.getElem?_eq_getElem hj, List.mem_append]
        refine .inr ?_
        have hu := pair_unique hm hp hi (.inr hk)
        rw [hk] at hu
        rw [k2, hu, if_pos ⟨k1, by show (0 : Int) < (i : Int) + 1; omega⟩]; simp
      · cases h
  · rintro ⟨⟨q, hq, j, hj, rfl⟩, h⟩
    unfold Nx afterL at h
    simp only [Int.toNat_natCast, List.getElem?_eq_getElem hq, show ((j : Int) + 1 - 1).toNat = j by omega, List.getElem?_eq_getElem hj, List.mem_append] at h
    rcases h with h | h
    · split at h
      · simp only [List.mem_singleton, Prod.mk.injEq] at h
        have e1 : p = q := by omega
        have e2 : i = j + 1 := by omega
        subst e1; subst e2
        refine .inl ?_
        rw [if_pos (by omega)]; simp
      · cases h
    · split at h
      · rename_i hc
        simp only [List.mem_singleton] at h
        obtain ⟨p', hp', i', hi', e, k1, k2⟩ := findIn_some hc.2
        rw [e, Prod.mk.injEq] at h
        have e1 : p = p' := by omega
        have e2 : i = i' := by omega
        subst e1; subst e2
        refine .inr ?_
        rw [if_pos k1, k2]
        have hu := pair_unique hm hq hj (.inl hc.1)
        rw [hc.1] at hu
        unfold sndr
        rw [hu]; simp
      · cases h
/-! ### Ranks -/
theorem Reach.rank {ps : List Pr} {f : Eid → Int} (h : ∀ x, VEv ps x → ∀ y ∈ afterL ps x, f x < f y) {x y : Eid} (hr : Reach ps x y) (hx : VEv ps x) : f x < f y := by
  have key : f x < f y ∧ VEv ps y := by
    induction hr with
    | single hn => exact ⟨h _ hx _ hn, Reach.valid (.single hn) hx⟩
    | tail hr hn ih => exact ⟨Int.lt_trans ih.1 (h _ ih.2 _ hn), Reach.valid (.single hn) ih.2⟩
  exact key.1
/-- No cycle where a rank grows along the edges. -/
theorem cycF_rank {ps : List Pr} (f : Eid → Int) (h : ∀ x ∈ evIds ps, ∀ y ∈ afterL ps x.1, f x.1 < f y) : cycF ps = none := by
  have hv : ∀ x, VEv ps x → ∀ y ∈ afterL ps x, f x < f y := by
    rintro x ⟨p, hp, i, hi, rfl⟩ y hy
    exact h _ (List.mem_of_getElem? (evIds_get hp hi)) y hy
  refine cycF_none fun j y hj hr => ?_
  obtain ⟨p, hp, i, hi, _, rfl⟩ := evIds_inv hj
  exact Int.lt_irrefl _ (hr.rank hv ⟨p, hp, i, hi, rfl⟩)

theorem sum_mono : ∀ (v w : List Int), v.length = w.length → (∀ j, v.getD j 0 ≤ w.getD j 0) → v.sum ≤ w.sum
  | [], [], _, _ => Int.le_refl _
  | [], _ :: _, h, _ => by simp at h
  | _ :: _, [], h, _ => by simp at h
  | a :: v, b :: w, h, hj => by
    have h0 := hj 0
    have ih := sum_mono v w (by simpa using h) fun j => by simpa using hj (j + 1)
    simp only [List.getD_cons_zero] at h0
    simp only [List.sum_cons]; omega
theorem sum_set : ∀ (v : List Int) (p : Nat) (x : Int), p < v.length → (v.set p x).sum = v.sum - v.getD p 0 + x
  | [], p, x, h => by simp at h
  | a :: v, 0, x, _ => by simp only [List.set_cons_zero, List.sum_cons, List.getD_cons_zero]; omega
  | a :: v, p + 1, x, h => by
    have ih := sum_set v p x (by simpa using h)
    simp only [List.set_cons_succ, List.sum_cons, List.getD_cons_succ, ih]; omega
theorem vec_grow {ps : List Pr} {S : Nat → List (List Int)} {p k : Nat} {u : List Int} (hp : p < ps.length) (hl : (rawV ps S p k).length = ps.length) (hu : u.length = ps.length) (h : ∀ j, u.getD j 0 ≤ (rawV ps S p k).getD j 0) : u.sum < (vecV ps S p k).sum := by
  unfold vecV tickV
  rw [sum_set _ _ _ (by omega)]
  have := sum_mono u (rawV ps S p k) (by omega) h
  omega
theorem Gen.raw {ps : List Pr} {S : Nat → List (List Int)} (h : Gen ps S) {p k : Nat} (hk : k < (S p).length) : (rawV ps S p k).length = ps.length ∧ (k ≠ 0 → ∀ j, (stOf S p (k - 1)).getD j 0 ≤ (rawV ps S p k).getD j 0) ∧
    ((evq ps p k).kind = 3 → ∀ j, (stOf S (sndr ps (evq ps p k).msg).1.toNat ((sndr ps (evq ps p k).msg).2 - 1).toNat).getD j 0 ≤ (rawV ps S p k).getD j 0) := by
  obtain ⟨_, _, _, h4⟩ := h.eqn p k hk
  have hpre : (preV ps S p k).length = ps.length := by
    unfold preV
    by_cases h0 : k = 0
    · rw [if_pos h0]; simp
    · rw [if_neg h0]; exact (h.bound p _ (by omega)).1
  unfold rawV
  by_cases h3 : (evq ps p k).kind = 3
  · have hw := h.bound (sndr ps (evq ps p k).msg).1.toNat ((sndr ps (evq ps p k).msg).2 - 1).toNat (by have := h4 h3; omega)
    have hl : (preV ps S p k).length = (stOf S (sndr ps (evq ps p k).msg).1.toNat ((sndr ps (evq ps p k).msg).2 - 1).toNat).length := by rw [hpre, hw.1]
    rw [if_pos h3]
    refine ⟨(joinV_length hl).trans hpre, fun h0 j => ?_, fun _ j => ?_⟩
    · rw [joinV_getD hl]
      have e : preV ps S p k = stOf S p (k - 1) := by unfold preV; rw [if_neg h0]
      rw [e]; omega
    · rw [joinV_getD hl]; omega
  · rw [if_neg h3]
    refine ⟨hpre, fun h0 j => ?_, fun h => absurd h h3⟩
    have e : preV ps S p k = stOf S p (k - 1) := by unfold preV; rw [if_neg h0]
    rw [e]; exact Int.le_refl _
/-- Where all events have stamps there is no cycle. -/
theorem cycF_of_stamps {ps : List Pr} (hm : msgF ps = none) {S : Nat → List (List Int)} (h : Gen ps S) (hall : ∀ p, p < ps.length → nev ps p ≤ (S p).length) : cycF ps = none := by
  refine cycF_rank (fun x => (stOf S x.1.toNat (x.2 - 1).toNat).sum) fun x hx y hy => ?_
  obtain ⟨p, hp, i, hi, rfl⟩ := Nx.valid hy (VEv.of_mem hx)
  obtain ⟨q, hq, j, hj, hxe⟩ := VEv.of_mem hx
  have hin : x.1 ∈ dirL ps p i := (dirL_iff hm hp hi x.1).2 ⟨VEv.of_mem hx, hy⟩
  have hlt : i < (S p).length := by have := hall p hp; rw [nev_get hp] at this; omega
  have hlx : j < (S q).length := by have := hall q hq; rw [nev_get hq] at this; omega
  obtain ⟨r1, r2, r3⟩ := h.raw hlt
  have hbx := h.bound q j hlx
  simp only [Int.toNat_natCast, show ((i : Int) + 1 - 1).toNat = i by omega]
  rw [(h.eqn p i hlt).2.2.1]
  unfold dirL at hin
  rw [List.mem_append] at hin
  rcases hin with hin | hin
  · split at hin
    · rename_i h0
      simp only [List.mem_singleton] at hin
      rw [hin]
      simp only [Int.toNat_natCast, show ((i : Int) - 1).toNat = i - 1 by omega]
      exact vec_grow hp r1 (h.bound p _ (by omega)).1 (r2 (by omega))
    · cases hin
  · split at hin
    · rename_i h3
      simp only [List.mem_singleton] at hin
      rw [hxe] at hin
      have e3 := r3 h3
      rw [← hin] at e3
      simp only [Int.toNat_natCast, show ((j : Int) + 1 - 1).toNat = j by omega] at e3
      rw [hxe]
      simp only [Int.toNat_natCast, show ((j : Int) + 1 - 1).toNat = j by omega]
      exact vec_grow hp r1 hbx.1 e3
    · cases hin
end Go.AL
end
section
/- The reference of layer 12: equal traces. No condition. -/
namespace Go.AL
open Go Go.RowKit
set_option maxRecDepth 4000
theorem ref12_SameEvent (a b : Ev) (ha : a.asg.length ≤ 1000000) : PC Go.Proofs.Tryz.prog 45 [aEv a, aEv b] (ab (decide (a = b))) := by
  refine PC.enter 59 [.tmp 4] [2, 3] Go.Proofs.Tryz.func45 rfl rfl rfl rfl rfl (by simp) (AWp.of ?_); simp only [go_sem]
  repeat (first | ((with_reducible refine AWp.ofC ?_ ?_); (focus exact rfl); simp only [go_sem]) | ((with_reducible refine an ?_ ?_); focus exact Au))
  refine ⟨fun h1 => ?_, fun h1 h2 h3 h4 h5 => ?_⟩
  · repeat (first | ((with_reducible refine AWp.ofC ?_ ?_); (focus exact rfl); simp only [go_sem]) | ((with_reducible refine an ?_ ?_); focus exact Au))
    refine ret_eq ?_; simp only [go_sem]
    congr 2; symm; apply decide_eq_false; rintro rfl; simp at h1
  · have hl : a.asg.length = b.asg.length := by omega
    repeat (first | ((with_reducible refine AWp.ofC ?_ ?_); (focus exact rfl); simp only [go_sem]) | ((with_reducible refine an ?_ ?_); focus exact Au))
    refine AWp.block (AWp.count 5 a.asg.length [] [2, 3] (fun k vs L => L = [] ∧ ∀ (i : Nat) (hi : i < a.asg.length), i < k → a.asg[i] = b.asg[i]) rfl rfl ⟨rfl, by omega⟩ ?_)
    rintro k vs L' hk - ⟨rfl, hI⟩
    simp only [go_sem]
    repeat (first | ((with_reducible refine AWp.ofC ?_ ?_); (focus exact rfl); simp only [go_sem]) | ((with_reducible refine an ?_ ?_); focus exact Au))
    refine ⟨fun h6 => ?_, fun h6 => ?_⟩
    · have hka : k < a.asg.length := by omega
      have hkb : k < b.asg.length := by omega
      refine AWp.seq (AWp.block (AWp.seq ?_))
      refine AWp.drawn mixed 11 (by kernel_rfl) ?_; simp only [go_sem, getD_map hka, getD_map hkb]
      repeat ((with_reducible refine an ?_ ?_); focus exact As)
      repeat (first | ((with_reducible refine AWp.ofC ?_ ?_); (focus exact rfl); simp only [go_sem]) | ((with_reducible refine an ?_ ?_); focus exact Au))
      refine ⟨fun h7 => ?_, fun h7 h8 => ?_⟩
      · repeat (first | ((with_reducible refine AWp.ofC ?_ ?_); (focus exact rfl); simp only [go_sem]) | ((with_reducible refine an ?_ ?_); focus exact Au))
        refine ret_eq ?_; simp only [go_sem]
        congr 2; symm; apply decide_eq_false; rintro rfl; simp at h7
      · repeat (first | ((with_reducible refine AWp.ofC ?_ ?_); (focus exact rfl); simp only [go_sem]) | ((with_reducible refine an ?_ ?_); focus exact Au))
        refine ⟨_, List.Sublist.refl _, rfl, fun i hi hik => ?_⟩
        by_cases e : i = k
        · subst e; exact Prod.ext h7 h8
        · exact hI i hi (by omega)
    · repeat (first | ((with_reducible refine AWp.ofC ?_ ?_); (focus exact rfl); simp only [go_sem]) | ((with_reducible refine an ?_ ?_); focus exact Au))
      refine ret_eq ?_; simp only [go_sem]
      congr 2; symm; apply decide_eq_true
      obtain ⟨k1, k2, k3, k4, k5⟩ := a
      obtain ⟨m1, m2, m3, m4, m5⟩ := b
      simp only [Ev.mk.injEq]
      simp only at h1 h2 h3 h4 h5 hI h6 hl
      exact ⟨h1, h2, h3, h4, List.ext_getElem hl (fun i hi _ => hI i hi (by omega))⟩
theorem ref12_Same (a b : List Pr) (ha : Sm a) : PC Go.Proofs.Tryz.prog 12 [aTr a, aTr b] (ab (decide (a = b))) := by
  have hla := ha.procs
  refine PC.enter 94 [.tmp 4] [2, 3, 6, 7] Go.Proofs.Tryz.func12 rfl rfl rfl rfl rfl (by simp) (AWp.of ?_); simp only [go_sem]
  repeat (first | ((with_reducible refine AWp.ofC ?_ ?_); (focus exact rfl); simp only [go_sem]) | ((with_reducible refine an ?_ ?_); focus exact Au))
  refine ⟨fun h1 => ?_, fun h1 => ?_⟩
  · repeat (first | ((with_reducible refine AWp.ofC ?_ ?_); (focus exact rfl); simp only [go_sem]) | ((with_reducible refine an ?_ ?_); focus exact Au))
    refine ret_eq ?_; simp only [go_sem]
    congr 2; symm; apply decide_eq_false; rintro rfl; simp at h1
  · have hl : a.length = b.length := by omega
    repeat (first | ((with_reducible refine AWp.ofC ?_ ?_); (focus exact rfl); simp only [go_sem]) | ((with_reducible refine an ?_ ?_); focus exact Au))
    refine AWp.block (AWp.count 5 a.length [] [2, 3] (fun k vs L => L = [] ∧ ∀ (i : Nat) (hi : i < a.length), i < k → a[i] = b[i]) rfl rfl ⟨rfl, by omega⟩ ?_)
    rintro k vs L' hk - ⟨rfl, hI⟩
    simp only [go_sem]
    repeat (first | ((with_reducible refine AWp.ofC ?_ ?_); (focus exact rfl); simp only [go_sem]) | ((with_reducible refine an ?_ ?_); focus exact Au))
    refine ⟨fun h2 => ?_, fun h2 => ?_⟩
    · have hka : k < a.length := by omega
      have hkb : k < b.length := by omega
      have hm := List.getElem_mem hka
      have hev := ha.evs _ hm
      have hvr := ha.vars _ hm
      have hne : a[k] ≠ b[k] → decide (a = b) = false := fun h => decide_eq_false (fun e => h (by subst e; rfl))
      have hA : (List.map aPr a).getD k .any = aPr a[k] := getD_map hka
      have hB : (List.map aPr b).getD k .any = aPr b[k] := getD_map hkb
      have hasg := ha.asg _ hm
      have hxy : a[k] = b[k] → ∀ (i : Nat) (hi : i < a.length), i = k → a[i] = b[i] := by intro h i hi e; subst e; exact h
      generalize a[k] = x at *
      generalize b[k] = y at *
      refine AWp.seq (AWp.block (AWp.cut [2, 3, 5, 6, 7] (fun vs L => L = [] ∧ vs = [.rp 1 [aTr a] 0 0, .rp 1 [aTr b] 0 0, ai k, .rp 3 [aPr x] 0 0, .rp 3 [aPr y] 0 0]) ?_ ?_))
      · refine AWp.mix mixed [0, 1, 2, 3, 4, 5, 6, 7, 8, 9] (.step 10 (.step 11 (.step 12 (.step 13 .done .done) .done) .done) (.step 11 (.step 10 (.step 12 (.step 13 .done .done) .done) .done) .done)) (by kernel_rfl) ?_; simp only [go_sem, hA, hB]
        repeat ((with_reducible refine an ?_ ?_); focus exact As)
        refine ⟨fun b1 b2 hb => ?_, fun b1 b2 hb => ?_⟩
        · have n1 : ¬ b1 = b2 := by omega
          have n2 : ¬ b2 = b1 := by omega
          try simp only [go_sem, n1, n2]
          exact ⟨_, List.Sublist.refl _, by simp⟩
        · have n1 : ¬ b1 = b2 := by omega
          have n2 : ¬ b2 = b1 := by omega
          try simp only [go_sem, n1, n2]
          exact ⟨_, List.Sublist.refl _, by simp⟩
      · rintro vs L' - ⟨rfl, rfl⟩
        simp only [go_sem]
        repeat (first | ((with_reducible refine AWp.ofC ?_ ?_); (focus exact rfl); simp only [go_sem]) | ((with_reducible refine an ?_ ?_); focus exact Au))
        refine ⟨fun h3 => ?_, fun h3 h4 h5 => ?_⟩
        · repeat (first | ((with_reducible refine AWp.ofC ?_ ?_); (focus exact rfl); simp only [go_sem]) | ((with_reducible refine an ?_ ?_); focus exact Au))
          refine ret_eq ?_; simp only [go_sem]
          congr 2; symm; apply hne; rintro rfl; simp at h3
        · have hlv : x.vars.length = y.vars.length := by omega
          have hle : x.evs.length = y.evs.length := by omega
          repeat (first | ((with_reducible refine AWp.ofC ?_ ?_); (focus exact rfl); simp only [go_sem]) | ((with_reducible refine an ?_ ?_); focus exact Au))
          refine AWp.block (AWp.count 8 x.vars.length [] [2, 3, 5, 6, 7] (fun j vs L => L = [] ∧ ∀ (i : Nat) (hi : i < x.vars.length), i < j → x.vars[i] = y.vars[i]) rfl rfl ⟨rfl, by omega⟩ ?_)
          rintro j vs L' hj - ⟨rfl, hJ⟩
          simp only [go_sem]
          repeat (first | ((with_reducible refine AWp.ofC ?_ ?_); (focus exact rfl); simp only [go_sem]) | ((with_reducible refine an ?_ ?_); focus exact Au))
          refine ⟨fun h6 => ?_, fun h6 => ?_⟩
          · have hja : j < x.vars.length := by omega
            have hjb : j < y.vars.length := by omega
            refine AWp.seq (AWp.block (AWp.seq ?_))
            refine AWp.drawn mixed 11 (by kernel_rfl) ?_; simp only [go_sem, getD_map hja, getD_map hjb]
            repeat ((with_reducible refine an ?_ ?_); focus exact As)
            repeat (first | ((with_reducible refine AWp.ofC ?_ ?_); (focus exact rfl); simp only [go_sem]) | ((with_reducible refine an ?_ ?_); focus exact Au))
            refine ⟨fun h7 => ?_, fun h7 h8 => ?_⟩
            · repeat (first | ((with_reducible refine AWp.ofC ?_ ?_); (focus exact rfl); simp only [go_sem]) | ((with_reducible refine an ?_ ?_); focus exact Au))
              refine ret_eq ?_; simp only [go_sem]
              congr 2; symm; apply hne; rintro rfl; simp at h7
            · repeat (first | ((with_reducible refine AWp.ofC ?_ ?_); (focus exact rfl); simp only [go_sem]) | ((with_reducible refine an ?_ ?_); focus exact Au))
              refine ⟨_, List.Sublist.refl _, rfl, fun i hi hij => ?_⟩
              by_cases e : i = j
              · subst e; exact Prod.ext h7 h8
              · exact hJ i hi (by omega)
          · repeat (first | ((with_reducible refine AWp.ofC ?_ ?_); (focus exact rfl); simp only [go_sem]) | ((with_reducible refine an ?_ ?_); focus exact Au))
            refine AWp.block (AWp.count 9 x.evs.length [] [2, 3, 5, 6, 7] (fun j vs L => L = [] ∧ ∀ (i : Nat) (hi : i < x.evs.length), i < j → x.evs[i] = y.evs[i]) rfl rfl ⟨rfl, by omega⟩ ?_)
            rintro m vs L' hm - ⟨rfl, hM⟩
            simp only [go_sem]
            repeat (first | ((with_reducible refine AWp.ofC ?_ ?_); (focus exact rfl); simp only [go_sem]) | ((with_reducible refine an ?_ ?_); focus exact Au))
            refine ⟨fun h9 => ?_, fun h9 => ?_⟩
            · have hma : m < x.evs.length := by omega
              have hmb : m < y.evs.length := by omega
              refine AWp.seq (AWp.block (AWp.seq ?_))
              refine AWp.drawn mixed 10 (by kernel_rfl) ?_; simp only [go_sem, getD_map hma, getD_map hmb]
              repeat ((with_reducible refine an ?_ ?_); focus exact As)
              repeat ((with_reducible refine an ?_ ?_); focus exact As)
              refine (ref12_SameEvent x.evs[m] y.evs[m] (hasg _ (List.getElem_mem hma))).val.use ?_; simp only [go_sem]
              repeat (first | ((with_reducible refine AWp.ofC ?_ ?_); (focus exact rfl); simp only [go_sem]) | ((with_reducible refine an ?_ ?_); focus exact Au))
              refine ⟨fun h7 => ?_, fun h7 => ?_⟩
              · repeat (first | ((with_reducible refine AWp.ofC ?_ ?_); (focus exact rfl); simp only [go_sem]) | ((with_reducible refine an ?_ ?_); focus exact Au))
                refine ret_eq ?_; simp only [go_sem]
                congr 2; symm; apply hne; rintro rfl; exact h7 rfl
              · repeat (first | ((with_reducible refine AWp.ofC ?_ ?_); (focus exact rfl); simp only [go_sem]) | ((with_reducible refine an ?_ ?_); focus exact Au))
                refine ⟨_, List.Sublist.refl _, rfl, fun i hi hij => ?_⟩
                by_cases e : i = m
                · subst e; exact h7
                · exact hM i hi (by omega)
            · repeat (first | ((with_reducible refine AWp.ofC ?_ ?_); (focus exact rfl); simp only [go_sem]) | ((with_reducible refine an ?_ ?_); focus exact Au))
              refine ⟨_, List.Sublist.refl _, rfl, fun i hi hik => ?_⟩
              by_cases e : i = k
              · refine hxy ?_ i hi e
                obtain ⟨k1, k2, k3⟩ := x
                obtain ⟨m1, m2, m3⟩ := y
                simp only [Pr.mk.injEq]
                simp only at h3 hlv hle hJ hM h6 h9
                exact ⟨h3, List.ext_getElem hlv (fun i hi _ => hJ i hi (by omega)), List.ext_getElem hle (fun i hi _ => hM i hi (by omega))⟩
              · exact hI i hi (by omega)
    · repeat (first | ((with_reducible refine AWp.ofC ?_ ?_); (focus exact rfl); simp only [go_sem]) | ((with_reducible refine an ?_ ?_); focus exact Au))
      refine ret_eq ?_; simp only [go_sem]
      congr 2; symm; apply decide_eq_true
      exact List.ext_getElem hl (fun i hi _ => hI i hi (by omega))
end Go.AL
end
section
/- The package prune: Drop. No condition. -/
namespace Go.AL
open Go Go.RowKit
set_option maxRecDepth 4000
/-! ### Sets of numbers, as maps in the memory -/
def intV (x : Int) : Value := Value.int .i64 x
def aISet (s : List Int) : ABlk := .amap (s.map intV) (s.map fun _ => ab true)
theorem mfind_iset (y : Int) (s : List Int) : (mfind (intV y) (s.map intV)).isSome = decide (y ∈ s) ∧ ∀ i, mfind (intV y) (s.map intV) = some i → i < s.length := by
  induction s with
  | nil => exact ⟨by simp [mfind], fun i h => by simp [mfind] at h⟩
  | cons x s ih =>
    have hk : keyB (intV y) (intV x) = decide (y = x) := rfl
    simp only [List.map_cons, mfind, hk, decide_eq_true_eq]
    by_cases h : y = x
    · rw [if_pos h]; exact ⟨by simp [h], fun i hi => by cases hi; simp⟩
    · rw [if_neg h]
      cases hf : mfind (intV y) (s.map intV) with
      | none => rw [hf] at ih; exact ⟨by simp [h]; simpa using ih.1, fun i hi => by cases hi⟩
      | some k => rw [hf] at ih; exact ⟨by simp [h]; simpa using ih.1, fun i hi => by cases hi; simpa using ih.2 k rfl⟩
theorem mget_iset (y : Int) (s : List Int) : mget (intV y) (s.map intV) (s.map fun _ => ab true) (ab false) = ab (decide (y ∈ s)) := by
  obtain ⟨h1, h2⟩ := mfind_iset y s
  unfold mget
  cases hf : mfind (intV y) (s.map intV) with
  | none => rw [hf] at h1; rw [← h1]; rfl
  | some i =>
    rw [hf] at h1
    rw [← h1]
    show (List.map (fun _ => ab true) s).getD i .any = ab true
    rw [List.getD_eq_getElem?_getD]
    simp [h2 i hf]
def ins (s : List Int) (y : Int) : List Int := if y ∈ s then s else s ++ [y]
theorem mem_ins {s : List Int} {y m : Int} : m ∈ ins s y ↔ m ∈ s ∨ m = y := by
  unfold ins; split
  · rename_i h; exact ⟨.inl, fun h' => h'.elim id (fun e => e ▸ h)⟩
  · simp
theorem mput_iset (y : Int) (s : List Int) : mput (intV y) (ab true) (s.map intV) (s.map fun _ => ab true) = aISet (ins s y) := by
  obtain ⟨h1, h2⟩ := mfind_iset y s
  unfold mput
  cases hf : mfind (intV y) (s.map intV) with
  | none => rw [hf] at h1; unfold ins; rw [if_neg (by simpa using h1)]; simp [aISet]
  | some i =>
    rw [hf] at h1
    unfold ins; rw [if_pos (by simpa using h1)]
    simp only [aISet]
    congr 1
    apply List.ext_getElem?
    intro j
    rw [List.getElem?_set]
    split
    · rename_i e; subst e; simp [h2 i hf]
    · rfl
theorem fits_int (y : Int) : (KK.sc .int).fits (intV y) = true := by simp [KK.fits, intV, SK.vfits]
theorem fits_iset (s : List Int) : ((s.map intV).all (KK.sc .int).fits) = true := by
  simp only [List.all_map, List.all_eq_true]; intro x _; exact fits_int x
/-! ### What Drop gives -/
def sentP (x : Pr) (n : Nat) (m : Int) : Bool := (x.evs.take n).any fun e => decide (e.kind = 2) && decide (e.msg = m)
def sentB (ps : List Pr) (c : List Int) (m : Int) : Bool := (ps.zip c).any fun x => sentP x.1 x.2.toNat m
def dropEv (S : Int → Bool) (e : Ev) : Ev := if e.kind = 3 ∧ S e.msg = true then { e with kind := 1, peer := 0, msg := 0 } else e
def dropP (S : Int → Bool) (x : Pr) (n : Nat) : Pr := ⟨x.name, (x.vars.map (·.1)).zip (stateAt x n), (x.evs.drop n).map (dropEv S)⟩
def dropS (S : Int → Bool) (ps : List Pr) (c : List Int) : List Pr := (ps.zip c).map fun x => dropP S x.1 x.2.toNat
def dropF (ps : List Pr) (c : List Int) : List Pr := dropS (sentB ps c) ps c
noncomputable def aDrop (ps : List Pr) (c : List Int) : AV := if givenF ps [c] [] ≠ 0 then .tup [aTr [], ai (givenF ps [c] [])] else .tup [aTr (dropF ps c), ai 0]
theorem sentB_succ {ps : List Pr} {c : List Int} {k : Nat} {m : Int} (hk : k < c.length) (hp : k < ps.length) : sentB (ps.take (k + 1)) (c.take (k + 1)) m = (sentB (ps.take k) (c.take k) m || sentP ps[k] c[k].toNat m) := by
  unfold sentB
  rw [List.take_succ_eq_append_getElem hk, List.take_succ_eq_append_getElem hp, List.zip_append (by simp; omega), List.any_append]
  simp
theorem sentP_succ {x : Pr} {j : Nat} {m : Int} (hj : j < x.evs.length) : sentP x (j + 1) m = (sentP x j m || (decide (x.evs[j].kind = 2) && decide (x.evs[j].msg = m))) := by
  unfold sentP
  rw [List.take_succ_eq_append_getElem hj, List.any_append]
  simp
theorem fresh_app (L1 L2 : AHeap) (b : Nat) : fresh (L1 ++ L2) b = (fresh L1 b ∧ fresh L2 b) := by
  induction L1 with
  | nil => simp [fresh]
  | cons x r ih => simp only [List.cons_append, fresh, ih, and_assoc]
theorem lk_skip {L1 : AHeap} {b : Nat} (h : ∀ p ∈ L1, p.1 ≠ b) (X : AHeap) : lk (L1 ++ X) b = lk X b := by
  induction L1 with
  | nil => rfl
  | cons x r ih =>
    simp only [List.cons_append, lk]
    rw [if_neg fun e => h x (by simp) e.symm, ih fun p hp => h p (List.mem_cons_of_mem _ hp)]
theorem AWp.freezeApp {C : Cfg} {cd : Code} {Q : AQ} {ρ : Env} {t : TypeId} {k : Nat} {ys : List AV} {v : AV} {Lv Lr L' : AHeap} (hA : AppSt t k ys v Lv) (hv : LVw Lv Lr L') (h : AWp C cd Q ρ L') : AWp C cd Q ρ (Lv ++ Lr) := by
  cases hA with
  | nil => exact AWp.view [] [] hv (by simp) h
  | row b ys cap => exact AWp.view [true] [] hv (by simp) h
theorem valuesAt_get {ps : List Pr} {c : List Int} {k : Nat} (hk : k < ps.length) (hkc : k < c.length) : (valuesAt ps c)[k]'(by unfold valuesAt; rw [List.length_map, List.length_zip]; omega) = stateAt ps[k] c[k].toNat := by
  unfold valuesAt; simp
theorem apart_lk {L : AHeap} {b : Nat} (h : apart L b) : lk L b = none := by
  induction L with
  | nil => rfl
  | cons x r ih =>
    obtain ⟨c, y⟩ := x
    simp only [apart] at h
    simp only [lk]
    rw [if_neg fun e => h.1 e.symm, ih h.2]
theorem dropS_succ {S : Int → Bool} {ps : List Pr} {c : List Int} {k : Nat} (hk : k < ps.length) (hkc : k < c.length) : dropS S (ps.take (k + 1)) (c.take (k + 1)) = dropS S (ps.take k) (c.take k) ++ [dropP S ps[k] c[k].toNat] := by
  unfold dropS
  rw [List.take_succ_eq_append_getElem hk, List.take_succ_eq_append_getElem hkc, List.zip_append (by simp; omega), List.map_append]
  rfl
set_option maxHeartbeats 4000000 in
theorem prune_Drop (ps : List Pr) (hs : Sm ps) (c : List Int) (hcl : c.length ≤ 1000000) : PC Go.Proofs.Tryz.prog 10 [aTr ps, aInts c] (aDrop ps c) := by
  have hat := variable_At ps hs c hcl
  unfold aAt at hat
  unfold aDrop
  refine PC.enter 138 [.cell 4 24, .tmp 5] [2, 12, 15, 18, 91, 126, 133] Go.Proofs.Tryz.func10 rfl rfl rfl rfl rfl (by simp) (AWp.of ?_); simp only [go_sem]
  intro b4
  repeat ((with_reducible refine an ?_ ?_); focus exact As)
  refine AWp.of ?_; simp only [go_sem]
  by_cases h1 : givenF ps [c] [] = 0
  · rw [if_neg (by simp [h1])] at hat
    rw [if_neg (by simp [h1])]
    obtain ⟨hv, hc, hr, _⟩ := givenF_zero h1
    repeat ((with_reducible refine an ?_ ?_); focus exact As)
    refine (hat).val.use ?_; simp only [go_sem]
    repeat (first | ((with_reducible refine AWp.ofC ?_ ?_); (focus exact rfl); simp only [go_sem]) | ((with_reducible refine an ?_ ?_); focus exact Au))
    intro b8 h48
    repeat ((with_reducible refine an ?_ ?_); focus exact As)
    refine AWp.of ?_; simp only [go_sem]
    refine AWp.range' c.length [] [1, 2, 4, 6, 8, 32, 33] (fun k vs L => ∃ s, (∀ m, m ∈ s ↔ sentB (ps.take k) (c.take k) m = true) ∧ L = [(b8, aISet s), (b4, .row 24 1 [.agg [anil]] 1)]) (by omega) rfl rfl rfl ⟨[], by intro m; simp [sentB], rfl⟩ ?_ ?_
    · rintro k vs L' hk - ⟨s, hI, rfl⟩
      have hkp : k < ps.length := by omega
      have hm := List.getElem_mem hkp
      obtain ⟨hr1, hr2⟩ := inRangeF_get hr hc hkp
      have hsu := fun m => sentB_succ (m := m) hk hkp
      have hev := hs.evs _ hm
      simp only [go_sem]
      repeat ((with_reducible refine an ?_ ?_); focus exact As)
      refine AWp.of ?_; simp only [go_sem, getD_map hk, getD_map hkp]
      repeat ((with_reducible refine an ?_ ?_); focus exact As)
      refine AWp.of ?_; simp only [go_sem, getD_map hk, getD_map hkp]
      repeat ((with_reducible refine an ?_ ?_); focus exact As)
      have htl : (List.take c[k].toNat ps[k].evs).length = c[k].toNat := by rw [List.length_take]; omega
      refine AWp.range' c[k].toNat [] [1, 2, 4, 6, 8, 32, 33, 34, 46, 47] (fun j vs L => ∃ s, (∀ m, m ∈ s ↔ (sentB (ps.take k) (c.take k) m = true ∨ sentP ps[k] j m = true)) ∧ L = [(b8, aISet s), (b4, .row 24 1 [.agg [anil]] 1)]) (by omega) rfl (by show ai _ = ai _; rw [htl]) rfl ⟨s, by intro m; simp [hI, sentP], rfl⟩ ?_ ?_
      · rintro j vs L' hj - ⟨s, hI, rfl⟩
        have hje : j < ps[k].evs.length := by omega
        have hsu := fun m => sentP_succ (m := m) hje
        have hij : (List.map aEv (List.take c[k].toNat ps[k].evs)).getD j .any = aEv ps[k].evs[j] := by
          rw [List.getD_eq_getElem?_getD, List.getElem?_map, List.getElem?_take, if_pos hj, List.getElem?_eq_getElem hje]; rfl
        simp only [go_sem]
        repeat ((with_reducible refine an ?_ ?_); focus exact As)
        refine AWp.of ?_; simp only [go_sem, hij]
        repeat ((with_reducible refine an ?_ ?_); focus exact As)
        intros
        refine AWp.of ?_; simp only [go_sem]
        have hp := mput_iset ps[k].evs[j].msg s
        have hfk := fits_int ps[k].evs[j].msg
        have hfs := fits_iset s
        simp only [intV] at hp hfk hfs
        repeat (first | ((with_reducible refine AWp.ofC ?_ ?_); (focus exact rfl); simp only [go_sem, aISet, hfk, hfs, hp]) | ((with_reducible refine an ?_ ?_); focus exact Au))
        refine ⟨fun h2 => ?_, fun h2 => ?_⟩
        · repeat ((with_reducible refine an ?_ ?_); focus exact As)
          refine ⟨_, List.Sublist.refl _, ins s ps[k].evs[j].msg, fun m => ?_, rfl⟩
          rw [mem_ins, hI, hsu]
          simp only [h2, decide_true, Bool.true_and, Bool.or_eq_true, decide_eq_true_eq]
          rw [or_assoc, eq_comm (a := m)]
        · refine ⟨_, List.Sublist.refl _, s, fun m => ?_, rfl⟩
          rw [hI, hsu]
          simp [h2]
      · rintro vs L' - ⟨s, hI, rfl⟩
        simp only [go_sem]
        refine ⟨_, List.Sublist.refl _, s, fun m => ?_, rfl⟩
        rw [hI, hsu]; simp
    · rintro vs L' - ⟨s, hI, rfl⟩
      have hS : ∀ m, decide (m ∈ s) = sentB ps c m := fun m => by
        have h := hI m
        rw [List.take_length, hc, List.take_length] at h
        by_cases hm : m ∈ s
        · rw [decide_eq_true hm, h.1 hm]
        · rw [decide_eq_false hm]; symm; rw [← Bool.not_eq_true]; exact fun h' => hm (h.2 h')
      clear hI
      simp only [go_sem]
      repeat (first | ((with_reducible refine AWp.ofC ?_ ?_); (focus exact rfl); simp only [go_sem]) | ((with_reducible refine an ?_ ?_); focus exact Au))
      intro b13 h13 h13'
      repeat (first | ((with_reducible refine AWp.ofC ?_ ?_); (focus exact rfl); simp only [go_sem]) | ((with_reducible refine an ?_ ?_); focus exact Au))
      refine AWp.range' ps.length [] [1, 4, 6, 8, 13, 61, 62] (fun k vs L => ∃ v Ln, L = Ln ++ [(b13, .row 24 1 [.agg [v]] 1), (b8, aISet s), (b4, .row 24 1 [.agg [anil]] 1)] ∧ AppSt 76 3 ((dropS (sentB ps c) (ps.take k) (c.take k)).map aPr) v Ln ∧ ∀ p ∈ Ln, p.1 ≠ b8 ∧ p.1 ≠ b13 ∧ p.1 ≠ b4) (by omega) rfl rfl rfl ⟨anil, [], rfl, .nil, by simp⟩ ?_ ?_
      · rintro k vs L' hk - ⟨v, Ln, rfl, hA, hne⟩
        have hkc : k < c.length := by omega
        have hm := List.getElem_mem hk
        obtain ⟨hr1, hr2⟩ := inRangeF_get hr hc hk
        have hev := hs.evs _ hm
        have hvr := hs.vars _ hm
        simp only [go_sem]
        have hvl := valuesAt_get hk hkc
        have hvlen : k < (valuesAt ps c).length := by unfold valuesAt; rw [List.length_map, List.length_zip]; omega
        have hstl := stateAt_length ps[k] c[k].toNat
        have hk8 : ∀ X, lk (Ln ++ X) b8 = lk X b8 := lk_skip fun p hp => (hne p hp).1
        have hgc : (List.map ai c).getD k .any = ai c[k] := getD_map hkc
        have hgv : (List.map aInts (valuesAt ps c)).getD k .any = aInts (stateAt ps[k] c[k].toNat) := by rw [getD_map hvlen, hvl]
        repeat ((with_reducible refine an ?_ ?_); focus exact As)
        refine AWp.of ?_; simp only [go_sem, getD_map hk]
        repeat ((with_reducible refine an ?_ ?_); focus exact As)
        intros
        refine AWp.of ?_; simp only [go_sem, fresh_app]
        intro b16 hf16 m13 m8 m4
        obtain ⟨L0, hL0⟩ : ∃ L0, L0 = Ln ++ [(b13, ABlk.row 24 1 [AV.agg [v]] 1), (b8, aISet s), (b4, .row 24 1 [.agg [anil]] 1)] := ⟨_, rfl⟩
        have hk8' : lk L0 b8 = some (aISet s) := by rw [hL0, hk8]; simp only [lk, if_true]; rw [if_neg (by omega)]
        rw [← hL0]
        refine AWp.cut [1, 4, 6, 8, 13, 14, 15, 16, 61, 62, 63] (fun vs L => ∃ vv Lv, L = Lv ++ (b16, .row 76 3 [.agg [astr ps[k].name, vv, anil]] 1) :: L0 ∧ AppSt 86 2 (((ps[k].vars.map (·.1)).zip (stateAt ps[k] c[k].toNat)).map aVar) vv Lv ∧ vs = [.sl 1 (c.map ai), .lp b4 1 0 0, .sl 1 ((valuesAt ps c).map aInts), .lm b8, .lp b13 1 0 0, ai k, .rp 3 [aPr ps[k]] 0 0, .lp b16 3 0 0, .sl 3 (ps.map aPr), ai ps.length, ai k]) ?_ ?_
        · repeat ((with_reducible refine an ?_ ?_); focus exact As)
          refine AWp.of ?_; simp only [go_sem]
          refine AWp.range' ps[k].vars.length [] [1, 4, 6, 8, 13, 14, 15, 16, 61, 62, 63, 72, 73] (fun j vs L => ∃ vv Lv, L = Lv ++ (b16, .row 76 3 [.agg [astr ps[k].name, vv, anil]] 1) :: L0 ∧ AppSt 86 2 ((((ps[k].vars.map (·.1)).zip (stateAt ps[k] c[k].toNat)).take j).map aVar) vv Lv ∧ ∀ p ∈ Lv, p.1 ≠ b16) (by omega) rfl rfl rfl ⟨anil, [], rfl, .nil, by simp⟩ ?_ ?_
          · rintro j vs L' hj - ⟨vv, Lv, rfl, hAv, hnv⟩
            have hjs : j < (stateAt ps[k] c[k].toNat).length := by omega
            have hzl : j < ((ps[k].vars.map (·.1)).zip (stateAt ps[k] c[k].toNat)).length := by rw [List.length_zip, List.length_map]; omega
            have hsu : (((ps[k].vars.map (·.1)).zip (stateAt ps[k] c[k].toNat)).take (j + 1)).map aVar = (((ps[k].vars.map (·.1)).zip (stateAt ps[k] c[k].toNat)).take j).map aVar ++ [aVar (ps[k].vars[j].1, (stateAt ps[k] c[k].toNat)[j])] := by
              rw [List.take_succ_eq_append_getElem hzl, List.map_append, List.getElem_zip, List.getElem_map]; rfl
            rw [hsu]
            have hyl : ((((ps[k].vars.map (·.1)).zip (stateAt ps[k] c[k].toNat)).take j).map aVar).length ≤ 1000000 := by simp; omega
            have hgs : (List.map ai (stateAt ps[k] c[k].toNat)).getD j .any = ai (stateAt ps[k] c[k].toNat)[j] := getD_map hjs
            generalize ((((ps[k].vars.map (·.1)).zip (stateAt ps[k] c[k].toNat)).take j).map aVar) = ys at *
            rcases hAv.inv with ⟨e1, rfl, rfl⟩ | ⟨b, cap, rfl, rfl⟩
            · simp only [go_sem]
              repeat ((with_reducible refine an ?_ ?_); focus exact As)
              refine AWp.of ?_; simp only [go_sem, getD_map hj]
              repeat ((with_reducible refine an ?_ ?_); focus exact As)
              intro b18 _ _
              refine AWp.mix mixed [0, 2, 3, 4, 5, 6, 7, 8, 9, 10, 11] (.step 1 (.step 12 (.step 13 (.step 14 (.step 15 .done .done) .done) .done) .done) (.step 12 (.step 1 (.step 13 (.step 14 (.step 15 .done .done) .done) .done) .done) .done)) (by kernel_rfl) ?_; simp only [go_sem, hgv, hgs]
              repeat ((with_reducible refine an ?_ ?_); focus exact As)
              intro b' cap' hb' _ _
              have n1 : ¬ b16 = b' := by omega
              simp only [go_sem, n1]
              repeat ((with_reducible refine an ?_ ?_); focus exact As)
              refine ⟨_, List.Sublist.refl _, _, [(b', .row 86 2 [_] cap')], rfl, ?_, ?_⟩
              · rw [e1]; exact .row _ [_] _
              · intro p hp; simp at hp; subst hp; exact fun e => n1 e.symm
            · have n1 : ¬ b = b16 := hnv (b, _) List.mem_cons_self
              have n2 : ¬ b16 = b := fun e => n1 e.symm
              simp only [go_sem]
              repeat ((with_reducible refine an ?_ ?_); focus exact As)
              refine AWp.of ?_; simp only [go_sem, getD_map hj]
              repeat ((with_reducible refine an ?_ ?_); focus exact As)
              intro b18 _ _ _
              refine AWp.mix mixed [0, 2, 3, 4, 5, 6, 7, 8, 9, 10, 11] (.step 1 (.step 12 (.step 13 (.step 14 (.step 15 .done .done) .done) .done) .done) (.step 12 (.step 1 (.step 13 (.step 14 (.step 15 .done .done) .done) .done) .done) .done)) (by kernel_rfl) ?_; simp only [go_sem, hgv, hgs, n1, n2]
              repeat ((with_reducible refine an ?_ ?_); focus exact As)
              intro b' cap' hb' _ _
              simp only [go_sem, hb']
              repeat ((with_reducible refine an ?_ ?_); focus exact As)
              refine ⟨_, List.Sublist.refl _, _, [(b', .row 86 2 (ys ++ [_]) cap')], rfl, ?_, ?_⟩
              · have := AppSt.row (t := 86) (k := 2) b' (ys ++ [aVar (ps[k].vars[j].1, (stateAt ps[k] c[k].toNat)[j])]) cap'
                simpa [aVar] using this
              · intro p hp; simp at hp; subst hp; exact fun e => hb' e.symm
          · rintro vs L' - ⟨vv, Lv, rfl, hAv, hnv⟩
            simp only [go_sem]
            rw [List.take_of_length_le (by rw [List.length_zip]; omega)] at hAv
            exact ⟨_, List.Sublist.refl _, vv, Lv, rfl, hAv⟩
        · rintro vs L' - ⟨vv, Lv, rfl, hAv, rfl⟩
          simp only [go_sem]
          have hvw := hAv.vw []
          rw [List.append_nil] at hvw
          refine AWp.freezeApp hAv (.row (Vws.cons (.mkAgg (Vws.cons (.refl _) (Vws.cons hvw (Vws.refl _)))) .nil) (LVw.refl _)) ?_
          refine AWp.seq (AWp.seq ?_)
          refine AWp.mix mixed [0, 1, 2, 3, 4, 5, 6, 7, 8] .done (by kernel_rfl) ?_; simp only [go_sem, hgc]
          repeat ((with_reducible refine an ?_ ?_); focus exact As)
          have hme : ∀ e ∈ List.drop c[k].toNat ps[k].evs, e ∈ ps[k].evs := fun e he => List.mem_of_mem_drop he
          have hdl : (List.drop c[k].toNat ps[k].evs).length ≤ 1000000 := by rw [List.length_drop]; omega
          have hPr : aPr ⟨ps[k].name, (ps[k].vars.map (·.1)).zip (stateAt ps[k] c[k].toNat), (List.drop c[k].toNat ps[k].evs).map (dropEv (sentB ps c))⟩ = aPr (dropP (sentB ps c) ps[k] c[k].toNat) := rfl
          have hasg : ∀ e ∈ List.drop c[k].toNat ps[k].evs, e.asg.length ≤ 1000000 := fun e he => hs.asg _ hm e (hme e he)
          generalize List.drop c[k].toNat ps[k].evs = es at *
          generalize ((ps[k].vars.map (·.1)).zip (stateAt ps[k] c[k].toNat)) = zs at *
          refine AWp.range' es.length [] [1, 4, 6, 8, 13, 16, 61, 62, 63, 101, 102] (fun j vs L => ∃ ve Le, L = Le ++ (b16, .row 76 3 [.agg [astr ps[k].name, aVars zs, ve]] 1) :: L0 ∧ AppSt 72 5 (((es.map (dropEv (sentB ps c))).take j).map aEv) ve Le ∧ ∀ p ∈ Le, p.1 ≠ b16 ∧ p.1 ≠ b8) (by omega) rfl rfl rfl ⟨anil, [], rfl, .nil, by simp⟩ ?_ ?_
          · rintro j vs L' hj - ⟨ve, Le, rfl, hAe, hnv⟩
            have hke : ∀ X, lk (Le ++ X) b8 = lk X b8 := lk_skip fun p hp => (hnv p hp).2
            have hk16 : ∀ X, lk (Le ++ X) b16 = lk X b16 := lk_skip fun p hp => (hnv p hp).1
            have hal := hasg _ (List.getElem_mem hj)
            have hsu : ((es.map (dropEv (sentB ps c))).take (j + 1)).map aEv = ((es.map (dropEv (sentB ps c))).take j).map aEv ++ [aEv (dropEv (sentB ps c) es[j])] := by
              rw [List.take_succ_eq_append_getElem (by simpa using hj), List.map_append, List.getElem_map]; rfl
            rw [hsu]
            have hyl : (((es.map (dropEv (sentB ps c))).take j).map aEv).length ≤ 1000000 := by simp; omega
            have hgj : (es.map aEv).getD j .any = aEv es[j] := getD_map hj
            generalize ((es.map (dropEv (sentB ps c))).take j).map aEv = ys at *
            generalize es[j] = z at *
            have hdz : dropEv (sentB ps c) z = if z.kind = 3 ∧ decide (z.msg ∈ s) = true then { z with kind := 1, peer := 0, msg := 0 } else z := by rw [hS]; rfl
            simp only [go_sem]
            repeat ((with_reducible refine an ?_ ?_); focus exact As)
            refine AWp.of ?_; simp only [go_sem, hgj, fresh_app]
            repeat ((with_reducible refine an ?_ ?_); focus exact As)
            intro b20 f1 f2 f3
            repeat (first | ((with_reducible refine AWp.ofC ?_ ?_); (focus exact rfl); simp only [go_sem]) | ((with_reducible refine an ?_ ?_); focus exact Au))
            repeat ((with_reducible refine an ?_ ?_); focus exact As)
            refine (asgs_clone z.asg hal).val.use ?_; simp only [go_sem]
            refine AWp.cut [1, 4, 6, 8, 13, 16, 20, 61, 62, 63, 101, 102, 103] (fun vs L => L = (b20, .row 72 5 [aEv (dropEv (sentB ps c) z)] 1) :: (Le ++ (b16, .row 76 3 [.agg [astr ps[k].name, aVars zs, ve]] 1) :: L0) ∧ vs = [.sl 1 (c.map ai), .lp b4 1 0 0, .sl 1 ((valuesAt ps c).map aInts), .lm b8, .lp b13 1 0 0, .lp b16 3 0 0, .lp b20 5 0 0, .sl 3 (ps.map aPr), ai ps.length, ai k, .sl 5 (es.map aEv), ai es.length, ai j]) ?_ ?_
            · have hz : aEv z = aEv z := rfl
              have hg := mget_iset z.msg s
              have hfk := fits_int z.msg
              have hfs := fits_iset s
              simp only [intV] at hg hfk hfs
              have n8 : ¬ b8 = b20 := by have : b8 < b16 := m8; omega
              have n16 : ¬ b16 = b20 := by omega
              have n8' : ¬ b8 = b16 := by omega
              repeat (first | ((with_reducible refine AWp.ofC ?_ ?_); (focus exact rfl); simp only [go_sem, aISet, hfk, hfs, hg, n8, n8', n16, hke, hk8']) | ((with_reducible refine an ?_ ?_); focus exact Au))
              refine ⟨fun h2 h3 => ?_, fun h2 => ?_⟩
              · have e := hdz
                rw [if_pos ⟨h2, by simpa using h3⟩] at e
                rw [e]
                exact ⟨_, List.Sublist.refl _, rfl⟩
              · have e := hdz
                rw [if_neg fun h => h2 h.1 (by simpa using h.2)] at e
                rw [e]
                exact ⟨_, List.Sublist.refl _, rfl⟩
            · rintro vs L' - ⟨rfl, rfl⟩
              clear hdz
              have n16 : ¬ b16 = b20 := by omega
              have n16' : ¬ b20 = b16 := by omega
              generalize dropEv (sentB ps c) z = z' at *
              rcases hAe.inv with ⟨e1, rfl, rfl⟩ | ⟨b, cap, rfl, rfl⟩
              · simp only [go_sem]
                repeat (first | ((with_reducible refine AWp.ofC ?_ ?_); (focus exact rfl); simp only [go_sem, n16, n16']) | ((with_reducible refine an ?_ ?_); focus exact Au))
                repeat ((with_reducible refine an ?_ ?_); focus exact As)
                intro b' cap' g1 g2 g3 _
                have n5 : ¬ b16 = b' := by omega
                simp only [go_sem, n5]
                repeat ((with_reducible refine an ?_ ?_); focus exact As)
                refine ⟨_, List.Sublist.cons_cons _ (List.Sublist.cons _ (List.Sublist.refl _)), _, [(b', .row 72 5 [_] cap')], rfl, ?_, ?_⟩
                · rw [e1]; exact .row _ [_] _
                · intro p hp
                  simp only [List.mem_singleton] at hp
                  subst hp
                  refine ⟨?_, ?_⟩ <;> (show ¬ b' = _; omega)
              · have n1 : ¬ b = b16 := (hnv (b, _) List.mem_cons_self).1
                have n2 : ¬ b16 = b := fun e => n1 e.symm
                have n3 : ¬ b20 = b := by have := f1; simp only [fresh] at this; omega
                have n4 : ¬ b = b20 := fun e => n3 e.symm
                simp only [go_sem]
                repeat (first | ((with_reducible refine AWp.ofC ?_ ?_); (focus exact rfl); simp only [go_sem, n16, n16', n1, n2, n3, n4]) | ((with_reducible refine an ?_ ?_); focus exact Au))
                repeat ((with_reducible refine an ?_ ?_); focus exact As)
                intro b' cap' g1 g2 g3 _
                have n5 : ¬ b' = b8 := fun e => by
                  have := apart_lk g3
                  rw [e, hk8'] at this
                  cases this
                simp only [go_sem, g2]
                repeat ((with_reducible refine an ?_ ?_); focus exact As)
                refine ⟨_, List.Sublist.cons_cons _ (List.Sublist.cons _ (List.Sublist.refl _)), _, [(b', .row 72 5 (ys ++ [_]) cap')], rfl, ?_, ?_⟩
                · have := AppSt.row (t := 72) (k := 5) b' (ys ++ [aEv z']) cap'
                  simpa [aEv, aAsgs] using this
                · intro p hp
                  simp only [List.mem_singleton] at hp
                  subst hp
                  exact ⟨fun e => g2 e.symm, n5⟩
          · rintro vs L' - ⟨ve, Le, rfl, hAe, hnv⟩
            rw [List.take_of_length_le (by simp)] at hAe
            simp only [go_sem]
            have hvw := hAe.vw []
            rw [List.append_nil] at hvw
            refine AWp.freezeApp hAe (.row (Vws.cons (.mkAgg (Vws.cons (.refl _) (Vws.cons (.refl _) (Vws.cons hvw .nil)))) .nil) (LVw.refl _)) ?_
            have hdr := dropS_succ (S := sentB ps c) hk hkc
            have hyl : ((dropS (sentB ps c) (ps.take k) (c.take k)).map aPr).length ≤ 1000000 := by simp [dropS]; omega
            rw [hdr, List.map_append]
            have hPr' : AV.agg [astr ps[k].name, AV.sl 2 (List.map aVar zs), AV.sl 5 (List.map aEv (es.map (dropEv (sentB ps c))))] = aPr (dropP (sentB ps c) ps[k] c[k].toNat) := hPr
            rw [hPr']
            generalize (dropS (sentB ps c) (ps.take k) (c.take k)).map aPr = ys at *
            generalize dropP (sentB ps c) ps[k] c[k].toNat = q at *
            have m1 : ¬ b13 = b16 := by omega
            have m2 : ¬ b16 = b13 := by omega
            rcases hA.inv with ⟨e1, rfl, rfl⟩ | ⟨b, cap, rfl, rfl⟩
            · subst hL0
              simp only [go_sem, m1, m2]
              repeat (first | ((with_reducible refine AWp.ofC ?_ ?_); (focus exact rfl); simp only [go_sem, m1, m2]) | ((with_reducible refine an ?_ ?_); focus exact Au))
              repeat ((with_reducible refine an ?_ ?_); focus exact As)
              intro b' cap' g1 g2 g3 g4 _
              have n3 : ¬ b13 = b' := by omega
              simp only [go_sem, n3]
              repeat ((with_reducible refine an ?_ ?_); focus exact As)
              refine ⟨_, List.Sublist.cons_cons _ (List.Sublist.cons _ (List.Sublist.refl _)), _, [(b', .row 76 3 [_] cap')], rfl, ?_, ?_⟩
              · rw [e1]; exact .row _ [_] _
              · intro p hp
                simp only [List.mem_singleton] at hp
                subst hp
                refine ⟨?_, ?_, ?_⟩ <;> (show ¬ b' = _; omega)
            · subst hL0
              have n1 : ¬ b13 = b := fun e => (hne (b, _) List.mem_cons_self).2.1 e.symm
              have n2 : ¬ b16 = b := by have := hf16; simp only [fresh] at this; omega
              have n3 : ¬ b = b16 := fun e => n2 e.symm
              simp only [go_sem, m1, m2, n1, n2, n3]
              repeat (first | ((with_reducible refine AWp.ofC ?_ ?_); (focus exact rfl); simp only [go_sem, m1, m2, n1, n2, n3]) | ((with_reducible refine an ?_ ?_); focus exact Au))
              repeat ((with_reducible refine an ?_ ?_); focus exact As)
              intro b' cap' g1 g2 g3 g4 _
              simp only [go_sem, g2]
              repeat ((with_reducible refine an ?_ ?_); focus exact As)
              refine ⟨_, List.Sublist.cons_cons _ (List.Sublist.cons _ (List.Sublist.refl _)), _, [(b', .row 76 3 (ys ++ [_]) cap')], rfl, ?_, ?_⟩
              · have := AppSt.row (t := 76) (k := 3) b' (ys ++ [aPr q]) cap'
                simpa [aPr, aVars, aEvs] using this
              · intro p hp
                simp only [List.mem_singleton] at hp
                subst hp
                refine ⟨?_, ?_, ?_⟩ <;> (show ¬ b' = _; omega)
      · rintro vs L' - ⟨v, Ln, rfl, hA, hne⟩
        have hend : dropS (sentB ps c) (ps.take ps.length) (c.take ps.length) = dropF ps c := by rw [List.take_length, ← hc, List.take_length]; rfl
        rw [hend] at hA
        have m1 : ¬ b4 = b13 := by omega
        have m2 : ¬ b4 = b8 := by omega
        simp only [go_sem]
        rcases hA.inv with ⟨e1, rfl, rfl⟩ | ⟨b, cap, rfl, rfl⟩
        · have e2 : dropF ps c = [] := by simpa using e1
          repeat (first | ((with_reducible refine AWp.ofC ?_ ?_); (focus exact rfl); simp only [go_sem, m1, m2]) | ((with_reducible refine an ?_ ?_); focus exact Au))
          refine ret_view [] ?_; simp only [go_sem, m1, m2]
          rw [e2]
          exact .mkTup (Vws.cons (.mkAgg (Vws.cons (.nil 3) .nil)) (Vws.refl _))
        · have n1 : ¬ b13 = b := fun e => (hne (b, _) List.mem_cons_self).2.1 e.symm
          have n2 : ¬ b4 = b := fun e => (hne (b, _) List.mem_cons_self).2.2 e.symm
          repeat (first | ((with_reducible refine AWp.ofC ?_ ?_); (focus exact rfl); simp only [go_sem, n1, n2, m1, m2]) | ((with_reducible refine an ?_ ?_); focus exact Au))
          refine ret_view [true] ?_; simp only [go_sem, n1, n2, m1, m2]
          exact .mkTup (Vws.cons (.mkAgg (Vws.cons (Vw.ofLs (if_pos rfl) (by simp)) .nil)) (Vws.refl _))
  · rw [if_pos h1] at hat
    rw [if_pos h1]
    repeat ((with_reducible refine an ?_ ?_); focus exact As)
    refine (hat).val.use ?_; simp only [go_sem]
    repeat (first | ((with_reducible refine AWp.ofC ?_ ?_); (focus exact rfl); simp only [go_sem, h1]) | ((with_reducible refine an ?_ ?_); focus exact Au))
    refine ret_view [] ?_; simp only [go_sem]
    exact .mkTup (Vws.cons (.mkAgg (Vws.cons (.nil 3) .nil)) (Vws.refl _))
end Go.AL
end
section
/- Values by the latest assignment; which receives lose their message. No condition. -/
namespace Go.AL
open Go Go.RowKit
set_option maxRecDepth 4000
theorem asgF_of_valid {ps : List Pr} (h : validF ps = true) (p : Nat) (hp : p < ps.length) (i : Nat) (hi : i < ps[p].evs.length) (k : Nat) (hk : k < ps[p].evs[i].asg.length) : asgF ps[p].vars.length ps[p].evs[i].asg k = 0 := by
  have hef : evFirst ps = none := by
    unfold validF faultF at h
    simp only [decide_eq_true_eq] at h
    split at h
    · simp at h
    · cases h1 : procFirst ps with
      | some x =>
        rw [h1] at h
        unfold procFirst at h1
        rw [Option.map_eq_some_iff] at h1
        obtain ⟨q, hq, rfl⟩ := h1
        have := List.find?_some hq
        simp at this
        exact absurd h this
      | none =>
        rw [h1] at h
        cases h2 : evFirst ps with
        | none => rfl
        | some x =>
          rw [h2] at h
          unfold evFirst at h2
          rw [Option.map_eq_some_iff] at h2
          obtain ⟨q, hq, rfl⟩ := h2
          have := List.find?_some hq
          simp at this
          exact absurd h this
  have h0 := evFirst_get hef hp hi
  unfold evF at h0
  simp only [List.getElem?_eq_getElem hp, List.getElem?_eq_getElem hi] at h0
  split at h0
  · cases h0
  · split at h0
    · cases h0
    · split at h0
      · cases h0
      · by_cases hz : ∀ j, j < ps[p].evs[i].asg.length → asgF ps[p].vars.length ps[p].evs[i].asg j = 0
        · exact hz k hk
        · exfalso
          apply hz
          intro j hj
          induction j using Nat.strongRecOn with
          | _ j ih =>
            by_cases hj0 : asgF ps[p].vars.length ps[p].evs[i].asg j = 0
            · exact hj0
            · rw [fstF_hit hj (fun m hm => ih m hm (by omega)) hj0] at h0
              exact absurd h0 hj0
/-- No variable is assigned twice in an event. -/
def AsgDis (x : Pr) : Prop := ∀ e ∈ x.evs, ∀ (i j : Nat) (hi : i < e.asg.length) (hj : j < e.asg.length), i < j → e.asg[i].1 ≠ e.asg[j].1
theorem dis_of_valid {ps : List Pr} (h : validF ps = true) (p : Nat) (hp : p < ps.length) : AsgDis ps[p] := by
  intro e he i j hi hj hij heq
  obtain ⟨n, hn, rfl⟩ := List.getElem_of_mem he
  have h0 := asgF_of_valid h p hp n hn j hj
  unfold asgF at h0
  simp only [List.getElem?_eq_getElem hj] at h0
  split at h0
  · cases h0
  · split at h0
    · cases h0
    · rename_i hx
      apply hx
      rw [List.any_eq_true]
      refine ⟨ps[p].evs[n].asg[i], ?_, by simpa using heq⟩
      refine List.mem_of_getElem? (i := i) ?_
      rw [List.getElem?_take, if_pos hij, List.getElem?_eq_getElem hi]
theorem assignL_none {v : Nat} : ∀ (l : List (Int × Int)) (s : List Int), (∀ a ∈ l, 0 ≤ a.1 ∧ a.1 ≠ v) → (assignL s l)[v]? = s[v]?
  | [], s, _ => rfl
  | a :: r, s, h => by
    have ih := assignL_none r (s.set a.1.toNat a.2) fun b hb => h b (List.mem_cons_of_mem _ hb)
    have := h a List.mem_cons_self
    show (assignL (s.set a.1.toNat a.2) r)[v]? = s[v]?
    rw [ih, List.getElem?_set_ne (by omega)]
theorem assignL_hit {v : Nat} : ∀ (l : List (Int × Int)) (s : List Int), v < s.length → (∀ a ∈ l, 0 ≤ a.1) → (∀ (i j : Nat) (hi : i < l.length) (hj : j < l.length), i < j → l[i].1 ≠ l[j].1) →
    ∀ (j : Nat) (hj : j < l.length), l[j].1 = v → (assignL s l)[v]? = some l[j].2
  | [], s, _, _, _, j, hj, _ => by simp at hj
  | a :: r, s, hv, h0, hd, j, hj, hjv => by
    show (assignL (s.set a.1.toNat a.2) r)[v]? = _
    cases j with
    | zero =>
      simp only [List.getElem_cons_zero] at hjv ⊢
      rw [assignL_none r _ fun b hb => ⟨h0 b (List.mem_cons_of_mem _ hb), ?_⟩]
      · rw [show a.1.toNat = v by omega, List.getElem?_set_self hv]
      · obtain ⟨i, hi, rfl⟩ := List.getElem_of_mem hb
        have := hd 0 (i + 1) (by simp) (by simpa using hi) (by omega)
        simp only [List.getElem_cons_zero, List.getElem_cons_succ] at this
        omega
    | succ j =>
      simp only [List.getElem_cons_succ] at hjv ⊢
      refine assignL_hit r _ (by rw [List.length_set]; exact hv) (fun b hb => h0 b (List.mem_cons_of_mem _ hb)) (fun i k hi hk hik => ?_) j (by simpa using hj) hjv
      have := hd (i + 1) (k + 1) (by simpa using hi) (by simpa using hk) (by omega)
      simpa using this
/-- The sender of a message is the process that the receive names. -/
theorem recv_peer {ps : List Pr} (hm : msgF ps = none) {p : Nat} (hp : p < ps.length) {i : Nat} (hi : i < ps[p].evs.length) (hk : ps[p].evs[i].kind = 3) :
    ∃ (hq : ps[p].evs[i].peer.toNat < ps.length) (j : Nat) (hj : j < ps[ps[p].evs[i].peer.toNat].evs.length), sndr ps ps[p].evs[i].msg = ((ps[p].evs[i].peer.toNat : Int), (j : Int) + 1) ∧ ps[ps[p].evs[i].peer.toNat].evs[j].kind = 2 ∧ ps[ps[p].evs[i].peer.toNat].evs[j].msg = ps[p].evs[i].msg := by
  have hev := evIds_get hp hi
  have hlt : off ps p + i < (evIds ps).length := (List.getElem?_eq_some_iff.1 hev).1
  have hpz : pairF ps (off ps p + i) = 0 := by
    unfold msgF at hm
    split at hm
    · cases hm
    · rename_i hn
      rw [List.find?_eq_none] at hn
      simpa using hn _ (List.mem_range.2 hlt)
  unfold pairF at hpz
  rw [hev] at hpz
  simp only at hpz
  rw [if_neg (by omega), if_pos hk] at hpz
  split at hpz
  · cases hpz
  · split at hpz
    · cases hpz
    · rename_i hs
      have hs : sendsB ps ps[p].evs[i].peer ps[p].evs[i].msg (p : Int) = true := by simpa using hs
      unfold sendsB at hs
      split at hs
      · rename_i x hx
        obtain ⟨hq, e⟩ := List.getElem?_eq_some_iff.1 hx
        subst e
        obtain ⟨e, he, h1⟩ := List.any_eq_true.1 hs
        obtain ⟨j, hj, rfl⟩ := List.getElem_of_mem he
        simp only [Bool.and_eq_true, decide_eq_true_iff] at h1
        refine ⟨hq, j, hj, ?_, h1.1.1, h1.1.2⟩
        have := pair_unique hm hq hj (.inl h1.1.1)
        rw [h1.1.1, h1.1.2] at this
        exact this
      · cases hs
theorem sent_iff {ps : List Pr} (hm : msgF ps = none) {c : List Int} (hc : c.length = ps.length) {p : Nat} (hp : p < ps.length) {i : Nat} (hi : i < ps[p].evs.length) (hk : ps[p].evs[i].kind = 3) :
    ∃ hq : ps[p].evs[i].peer.toNat < c.length, sentB ps c ps[p].evs[i].msg = decide ((sndr ps ps[p].evs[i].msg).2 ≤ c[ps[p].evs[i].peer.toNat]) := by
  obtain ⟨hq, j, hj, h1, h2, h3⟩ := recv_peer hm hp hi hk
  refine ⟨by omega, ?_⟩
  rw [Bool.eq_iff_iff, decide_eq_true_iff, h1]
  unfold sentB
  rw [List.any_eq_true]
  constructor
  · rintro ⟨x, hx, hs⟩
    obtain ⟨q, hql, rfl⟩ := List.getElem_of_mem hx
    rw [List.length_zip] at hql
    rw [List.getElem_zip] at hs
    unfold sentP at hs
    obtain ⟨e, he, h4⟩ := List.any_eq_true.1 hs
    obtain ⟨k, hk2, rfl⟩ := List.getElem_of_mem he
    rw [List.length_take] at hk2
    dsimp only at h4 hk2
    rw [List.getElem_take] at h4
    simp only [Bool.and_eq_true, decide_eq_true_iff] at h4
    have hu := pair_unique hm (show q < ps.length by omega) (show k < ps[q].evs.length by omega) (.inl h4.1)
    rw [h4.1, h4.2] at hu
    unfold sndr at h1
    rw [hu, Prod.mk.injEq] at h1
    have e1 : q = ps[p].evs[i].peer.toNat := by omega
    have e2 : k = j := by omega
    subst e1; subst e2
    show (k : Int) + 1 ≤ _
    omega
  · intro h
    dsimp only at h
    refine ⟨(ps[ps[p].evs[i].peer.toNat], c[ps[p].evs[i].peer.toNat]), ?_, ?_⟩
    · refine List.mem_of_getElem? (i := ps[p].evs[i].peer.toNat) ?_
      rw [List.getElem?_zip_eq_some]
      exact ⟨List.getElem?_eq_getElem hq, List.getElem?_eq_getElem (by omega)⟩
    · unfold sentP
      rw [List.any_eq_true]
      refine ⟨_, List.mem_of_getElem? (i := j) ?_, by rw [h2, h3]; simp⟩
      rw [List.getElem?_take, if_pos (by dsimp only; omega), List.getElem?_eq_getElem hj]
theorem formed_of_valid {ps : List Pr} (h : validF ps = true) (p : Nat) (hp : p < ps.length) (i : Nat) (hi : i < ps[p].evs.length) : formedI ps.length p ps[p].evs[i] = true := by
  have h0 := evFirst_get (valid_parts h).2.1 hp hi
  unfold evF at h0
  simp only [List.getElem?_eq_getElem hp, List.getElem?_eq_getElem hi] at h0
  split at h0
  · cases h0
  · rename_i hx; simpa using hx
theorem peer_of_valid {ps : List Pr} (h : validF ps = true) (p : Nat) (hp : p < ps.length) (i : Nat) (hi : i < ps[p].evs.length) : 0 ≤ ps[p].evs[i].peer ∧ ps[p].evs[i].peer.toNat < ps.length := by
  have h0 := formed_of_valid h p hp i hi
  unfold formedI at h0
  split at h0
  · simp only [Bool.and_eq_true, decide_eq_true_iff] at h0; omega
  · split at h0
    · simp only [inI, Bool.and_eq_true, decide_eq_true_iff] at h0; omega
    · cases h0
end Go.AL
end
section
/- The layer AL, part 20: families of owned blocks; the memory told in another order; loops with a hidden measure. No condition. -/
namespace Go.AL
open Go Go.RowKit

section
variable {C : Cfg} {c : Code} {Q : AQ} {ρ : Env} {L : AHeap}
theorem AWp.perm {L' : AHeap} (hp : L.Perm L') (h : AWp C c Q ρ L') : AWp C c Q ρ L :=
  AWp.st (fun _ _ _ _ _ hs => st_view hs (Lf := []) (Lk := L') hp (LVw.refl _) fun _ => .inr (.refl _)) h
theorem AWp.nodup (h : (L.map (·.1)).Nodup → AWp C c Q ρ L) : AWp C c Q ρ L := fun hok n w0 M A0 a w hs => by
  obtain ⟨A, ds, hs'⟩ := st_iff.1 hs
  exact h hs'.l.nodup hok n w0 M A0 a w hs
theorem AWp.viewP {Lf Lk L' : AHeap} (hp : L.Perm (Lf ++ Lk)) (hv : LVw Lf Lk L') (sv : List (Nat × AV)) (hs : ∀ p ∈ sv, Vw Lf (get ρ p.1) p.2) (h : AWp C c Q (sv ++ ρ) L') : AWp C c Q ρ L := by
  refine AWp.st (fun w0 M A0 a w hst => st_view hst hp hv fun i => .inr ?_) h
  clear h
  induction sv with
  | nil => exact .refl _
  | cons p sv ih =>
    obtain ⟨j, x⟩ := p
    simp only [List.cons_append, get]
    split
    · rename_i e; subst e; exact hs (i, x) List.mem_cons_self
    · exact ih fun p hp => hs p (List.mem_cons_of_mem _ hp)
/-- Behind a piece of code blocks become read-only. -/
theorem AWp.postV (h : AWp C c (fun e ρ' L1 => ∃ Lf Lk L', L1.Perm (Lf ++ Lk) ∧ LVw Lf Lk L' ∧ Q e ρ' L') ρ L) : AWp C c Q ρ L := fun hok n w0 M A0 a w hs =>
  wpIn_mono (h hok n w0 M A0 a w hs) fun _ _ _ ⟨ρ', _, ⟨_, _, L', hp, hv, hq⟩, hst⟩ => ⟨ρ', L', hq, st_view hst hp hv fun _ => .inr (.refl _)⟩
/-- An owned row is no longer than its block. -/
theorem AWp.rowLe {b k cap : Nat} {t : TypeId} {xs : List AV} (hm : (b, .row t k xs cap) ∈ L) (h : xs.length ≤ cap → AWp C c Q ρ L) : AWp C c Q ρ L := fun hok n w0 M A0 a w hs => by
  obtain ⟨A, ds, hs'⟩ := st_iff.1 hs
  obtain ⟨_, _, _, h3, _⟩ := hs'.l.blk _ hm
  exact h h3 hok n w0 M A0 a w hs
/-- A loop whose measure is hidden in what holds. -/
theorem AWp.loopN (ls ks : List Nat) (I : Nat → List AV → AHeap → Prop) (m0 : Nat) (h0 : I m0 (ls.map (get ρ)) L)
    (round : ∀ m vs L', vs.length = ls.length → I m vs L' → AWp C c (roundQ ls ks ρ (fun vs' L'' => ∃ m', m' < m ∧ I m' vs' L'') Q) (lenv ls ks vs ρ) L') : AWp C (.loop c) Q ρ L := by
  open Classical in
  let μ : List AV → AHeap → Nat := fun vs L => if h : ∃ m, I m vs L then Classical.choose (least h) else 0
  refine AWp.loop ls ks (fun vs L => ∃ m, I m vs L) μ ⟨m0, h0⟩ fun vs L' hl hI => ?_
  have hμ : μ vs L' = Classical.choose (least hI) := dif_pos hI
  have hm := (Classical.choose_spec (least hI)).1
  refine (round _ vs L' hl hm).mono fun e ρ' L'' hq => ?_
  cases e with
  | normal =>
    obtain ⟨h1, L3, h2, m', h3, h4⟩ := hq
    have hx : ∃ m, I m (ls.map (get ρ')) L3 := ⟨m', h4⟩
    refine ⟨h1, L3, h2, hx, ?_⟩
    have e : μ (ls.map (get ρ')) L3 = Classical.choose (least hx) := dif_pos hx
    rw [e, hμ]
    exact Nat.lt_of_le_of_lt ((Classical.choose_spec (least hx)).2 _ h4) h3
  | _ => exact hq
end

theorem lk_of_mem {L : AHeap} (hn : (L.map (·.1)).Nodup) {b : Nat} {x : ABlk} (h : (b, x) ∈ L) : lk L b = some x := by
  induction L with
  | nil => cases h
  | cons y r ih =>
    obtain ⟨b', y⟩ := y
    simp only [List.map_cons, List.nodup_cons] at hn
    simp only [lk]
    rcases List.mem_cons.1 h with e | h'
    · cases e; rw [if_pos rfl]
    · have hne : ¬ b = b' := fun e => by subst e; exact hn.1 (List.mem_map_of_mem (f := (·.1)) h')
      rw [if_neg hne, ih hn.2 h']
theorem flatMap_ext {α β : Type} {f g : α → List β} : ∀ {l : List α}, (∀ x ∈ l, f x = g x) → l.flatMap f = l.flatMap g
  | [], _ => rfl
  | x :: l, h => by simp only [List.flatMap_cons]; rw [h x (by simp), flatMap_ext fun y hy => h y (List.mem_cons_of_mem _ hy)]
/-- The blocks of a family, one list for each number below n. -/
def famL (n : Nat) (Ls : Nat → AHeap) : AHeap := (List.range n).flatMap Ls
def famR (n p : Nat) (Ls : Nat → AHeap) : AHeap := ((List.range n).erase p).flatMap Ls
theorem fam_split {n p : Nat} (hp : p < n) (Ls : Nat → AHeap) : (famL n Ls).Perm (Ls p ++ famR n p Ls) := by
  have h := List.Perm.flatMap_right Ls (List.perm_cons_erase (List.mem_range.2 hp))
  rwa [List.flatMap_cons] at h
theorem famR_congr {n p : Nat} {Ls Ls' : Nat → AHeap} (h : ∀ q, q ≠ p → Ls' q = Ls q) : famR n p Ls' = famR n p Ls :=
  flatMap_ext fun q hq => h q fun e => by subst e; exact (List.nodup_range.not_mem_erase) hq
theorem fam_nil (n : Nat) : famL n (fun _ => []) = [] := by unfold famL; simp
theorem map_range_set (n p : Nat) (V : Nat → AV) (x : AV) : ((List.range n).map V).set p x = (List.range n).map fun q => if q = p then x else V q := by
  apply List.ext_getElem?
  intro i
  rw [List.getElem?_set, List.getElem?_map, List.getElem?_map]
  by_cases hi : i < n
  · rw [List.getElem?_range hi]
    by_cases e : p = i
    · subst e; simp [hi]
    · rw [if_neg e]; simp [Ne.symm e]
  · have : (List.range n)[i]? = none := by simp; omega
    rw [this]
    split
    · split
      · rename_i h; simp at h; omega
      · rfl
    · rfl
theorem fam_views {n k : Nat} {t : TypeId} {V : Nat → AV} {Ls : Nat → AHeap} {Y : Nat → List AV} (hn : ((famL n Ls).map (·.1)).Nodup) (h : ∀ p, p < n → AppSt t k (Y p) (V p) (Ls p)) :
    Vws (famL n Ls) ((List.range n).map V) ((List.range n).map fun p => .sl k (Y p)) := by
  refine ⟨by simp, fun i x y hx hy => ?_⟩
  by_cases hi : i < n
  · rw [List.getElem?_map, List.getElem?_range hi] at hx hy
    cases hx; cases hy
    show Vw (famL n Ls) (V i) (.sl k (Y i))
    rcases (h i hi).inv with ⟨e1, e2, _⟩ | ⟨b, cap, e1, e2⟩
    · rw [e1, e2]; exact .nil k
    · rw [e1]
      refine Vw.ofLs (t := t) (cap := cap) (lk_of_mem hn ?_) rfl
      unfold famL
      exact List.mem_flatMap.2 ⟨i, List.mem_range.2 hi, by rw [e2]; exact List.mem_singleton_self _⟩
  · have : (List.range n)[i]? = none := by simp; omega
    rw [List.getElem?_map, this] at hx; cases hx
theorem map_range_getD {n p : Nat} (hp : p < n) (V : Nat → AV) : ((List.range n).map V).getD p .any = V p := by
  rw [List.getD_eq_getElem?_getD, List.getElem?_map, List.getElem?_range hp]; rfl
end Go.AL
end
section
/- The reference of layer 12, first part: names, the head of a process. No condition. -/
namespace Go.AL
open Go Go.RowKit
set_option maxRecDepth 4000
theorem ref12_letter (n : Int) : PC Go.Proofs.Tryz.prog 192 [au8 n] (ab (letterI n)) := by
  refine PC.enter 17 [.tmp 2] [] Go.Proofs.Tryz.func192 rfl rfl rfl rfl rfl (by simp) (AWp.of ?_); simp only [go_sem]
  repeat (first | ((with_reducible refine AWp.ofC ?_ ?_); (focus exact rfl); simp only [go_sem]) | ((with_reducible refine an ?_ ?_); focus exact Au))
  refine ret_eq ?_; simp only [go_sem]
  unfold letterI; rw [Bool.or_comm]
theorem ref12_digit (n : Int) : PC Go.Proofs.Tryz.prog 193 [au8 n] (ab (digitI n)) := by
  refine PC.enter 9 [.tmp 2] [] Go.Proofs.Tryz.func193 rfl rfl rfl rfl rfl (by simp) (AWp.of ?_); simp only [go_sem]
  repeat (first | ((with_reducible refine AWp.ofC ?_ ?_); (focus exact rfl); simp only [go_sem]) | ((with_reducible refine an ?_ ?_); focus exact Au))
  refine ret_eq ?_; simp only [go_sem]
  rfl
theorem ref12_value (n : Int) : PC Go.Proofs.Tryz.prog 155 [ai n] (ab (inI n (-1073741824) 1073741824)) := by
  refine PC.enter 9 [.tmp 2] [] Go.Proofs.Tryz.func155 rfl rfl rfl rfl rfl (by simp) (AWp.of ?_); simp only [go_sem]
  repeat (first | ((with_reducible refine AWp.ofC ?_ ?_); (focus exact rfl); simp only [go_sem]) | ((with_reducible refine an ?_ ?_); focus exact Au))
  refine ret_eq ?_; simp only [go_sem]
  rfl
def nameCh (s : ByteArray) (i : Nat) : Bool := letterI (sb s i) || digitI (sb s i) || decide (sb s i = 95)
theorem nameOk_of {s : ByteArray} (h1 : 1 ≤ s.size) (h2 : s.size ≤ 16) (h3 : letterI (sb s 0) = true) : nameOk s = (List.range s.size).all (nameCh s) := by
  unfold nameOk
  rw [decide_eq_true (by omega), decide_eq_true h2, h3]; rfl
theorem nameOk_not {s : ByteArray} (h : s.size < 1 ∨ 16 < s.size ∨ letterI (sb s 0) = false) : nameOk s = false := by
  unfold nameOk
  rcases h with h | h | h
  · rw [decide_eq_false (by omega)]; rfl
  · rw [decide_eq_false (show ¬ s.size ≤ 16 by omega)]; simp
  · rw [h]; simp
theorem ref12_Name (s : ByteArray) : PC Go.Proofs.Tryz.prog 154 [astr s] (ab (nameOk s)) := by
  refine PC.enter 42 [.tmp 2] [] Go.Proofs.Tryz.func154 rfl rfl rfl rfl rfl (by simp) (AWp.of ?_); simp only [go_sem]
  repeat (first | ((with_reducible refine AWp.ofC ?_ ?_); (focus exact rfl); simp only [go_sem, size_empty]) | ((with_reducible refine an ?_ ?_); focus exact Au))
  repeat ((with_reducible refine an ?_ ?_); focus exact As)
  refine GCall.use (ab (letterI (sb s 0))) (fun _ => ⟨At, (ref12_letter _).val.use ⟨rfl, rfl⟩⟩) ?_; simp only [go_sem]
  repeat (first | ((with_reducible refine AWp.ofC ?_ ?_); (focus exact rfl); simp only [go_sem]) | ((with_reducible refine an ?_ ?_); focus exact Au))
  refine ⟨fun ht => ?_, fun h1 => ?_⟩
  · repeat (first | ((with_reducible refine AWp.ofC ?_ ?_); (focus exact rfl); simp only [go_sem]) | ((with_reducible refine an ?_ ?_); focus exact Au))
    refine ret_eq ?_; simp only [go_sem]
    rw [nameOk_not]
    rcases ht with (h | h) | h
    · exact .inl (by omega)
    · exact .inr (.inl (by omega))
    · exact .inr (.inr h)
  · intro h2 h3
    repeat (first | ((with_reducible refine AWp.ofC ?_ ?_); (focus exact rfl); simp only [go_sem]) | ((with_reducible refine an ?_ ?_); focus exact Au))
    refine AWp.block (AWp.loopN [3] [0] (fun m vs L => ∃ k : Nat, vs = [ai k] ∧ 1 ≤ k ∧ k ≤ s.size ∧ m = s.size - k ∧ L = [] ∧ ∀ i, i < k → nameCh s i = true) (s.size - 1) ?_ ?_)
    · exact ⟨1, rfl, by omega, by omega, rfl, rfl, fun i hi => by rw [show i = 0 by omega]; unfold nameCh; rw [h3]; rfl⟩
    rintro m vs L - ⟨k, rfl, k1, k2, rfl, rfl, hI⟩
    simp only [go_sem]
    repeat (first | ((with_reducible refine AWp.ofC ?_ ?_); (focus exact rfl); simp only [go_sem]) | ((with_reducible refine an ?_ ?_); focus exact Au))
    refine ⟨fun h4 => ?_, fun h4 => ?_⟩
    · repeat (first | ((with_reducible refine AWp.ofC ?_ ?_); (focus exact rfl); simp only [go_sem]) | ((with_reducible refine an ?_ ?_); focus exact Au))
      refine (ref12_letter _).val.use ?_
      simp only [go_sem]
      repeat ((with_reducible refine an ?_ ?_); focus exact As)
      refine GCall.use (ab (digitI (sb s k))) (fun _ => ⟨At, (ref12_digit _).val.use ⟨rfl, rfl⟩⟩) ?_; simp only [go_sem]
      repeat (first | ((with_reducible refine AWp.ofC ?_ ?_); (focus exact rfl); simp only [go_sem]) | ((with_reducible refine an ?_ ?_); focus exact Au))
      refine ⟨fun h5 h6 h7 => ?_, fun h5 => ?_⟩
      · repeat (first | ((with_reducible refine AWp.ofC ?_ ?_); (focus exact rfl); simp only [go_sem]) | ((with_reducible refine an ?_ ?_); focus exact Au))
        refine ret_eq ?_; simp only [go_sem]
        rw [nameOk_of (by omega) (by omega) h3]
        congr 2; symm
        rw [List.all_eq_false]
        refine ⟨k, List.mem_range.2 (by omega), ?_⟩
        unfold nameCh
        have h8 : ¬ sb s k = 95 := h7
        rw [show letterI (sb s k) = false from h5, h6, decide_eq_false h8]; decide
      · repeat (first | ((with_reducible refine AWp.ofC ?_ ?_); (focus exact rfl); simp only [go_sem]) | ((with_reducible refine an ?_ ?_); focus exact Au))
        refine ⟨_, List.Sublist.refl _, s.size - (k + 1), by omega, k + 1, rfl, by omega, by omega, rfl, rfl, fun i hi => ?_⟩
        by_cases e : i = k
        · subst e
          unfold nameCh
          cases h6 : letterI (sb s i)
          · cases h7 : digitI (sb s i)
            · have h8 := h5 h6 h7
              have h9 : sb s i = 95 := h8
              rw [decide_eq_true h9]; rfl
            · rfl
          · rfl
        · exact hI i (by omega)
    · repeat (first | ((with_reducible refine AWp.ofC ?_ ?_); (focus exact rfl); simp only [go_sem]) | ((with_reducible refine an ?_ ?_); focus exact Au))
      refine ret_eq ?_; simp only [go_sem]
      rw [nameOk_of (by omega) (by omega) h3]
      congr 2; symm
      rw [List.all_eq_true]
      exact fun i hi => hI i (by have := List.mem_range.1 hi; omega)
/-! ### The head of a process -/
theorem ref12_head (ps : List Pr) (hs : Sm ps) (p : Nat) (hp : p < ps.length) : PC Go.Proofs.Tryz.prog 117 [aTr ps, ai p] (ai (procF ps p)) := by
  have hm := List.getElem_mem hp
  have hl := hs.procs
  have hvl := hs.vars _ hm
  have hel := hs.evs _ hm
  have hpf : procF ps p = if !nameOk ps[p].name || (ps.take p).any (fun y => decide (y.name = ps[p].name)) then 13 else if 8 < ps[p].vars.length then 5 else
      if fstF (varF ps[p].vars) ps[p].vars.length ≠ 0 then fstF (varF ps[p].vars) ps[p].vars.length else if 64 < ps[p].evs.length then 5 else 0 := by
    unfold procF; rw [List.getElem?_eq_getElem hp]
  have htk : ∀ (q : Nat) (hq : q < ps.length), q < p → (∃ (y : Pr), y ∈ ps.take p ∧ y.name = ps[q].name) := fun q hq hlt => ⟨ps[q], by
    refine List.mem_of_getElem? (i := q) ?_
    rw [List.getElem?_take, if_pos hlt, List.getElem?_eq_getElem hq], rfl⟩
  refine PC.enter 81 [.tmp 4] [2, 5] Go.Proofs.Tryz.func117 rfl rfl rfl rfl rfl (by simp) (AWp.of ?_); simp only [go_sem]
  repeat (first | ((with_reducible refine AWp.ofC ?_ ?_); (focus exact rfl); simp only [go_sem, getD_map hp]) | ((with_reducible refine an ?_ ?_); focus exact Au))
  intro b5
  repeat (first | ((with_reducible refine AWp.ofC ?_ ?_); (focus exact rfl); simp only [go_sem]) | ((with_reducible refine an ?_ ?_); focus exact Au))
  repeat ((with_reducible refine an ?_ ?_); focus exact As)
  refine (ref12_Name _).val.use ?_; simp only [go_sem]
  repeat (first | ((with_reducible refine AWp.ofC ?_ ?_); (focus exact rfl); simp only [go_sem]) | ((with_reducible refine an ?_ ?_); focus exact Au))
  refine ⟨fun h1 => ?_, fun h1 => ?_⟩
  · repeat (first | ((with_reducible refine AWp.ofC ?_ ?_); (focus exact rfl); simp only [go_sem]) | ((with_reducible refine an ?_ ?_); focus exact Au))
    refine ret_eq ?_; simp only [go_sem]
    rw [hpf, if_pos (by rw [h1]; rfl)]
  · repeat (first | ((with_reducible refine AWp.ofC ?_ ?_); (focus exact rfl); simp only [go_sem]) | ((with_reducible refine an ?_ ?_); focus exact Au))
    refine AWp.block (AWp.count 6 p [] [1, 2, 5] (fun q vs L => L = [] ∧ ∀ (r : Nat) (hr : r < ps.length), r < q → ps[r].name ≠ ps[p].name) rfl rfl ⟨rfl, by omega⟩ ?_)
    rintro q vs L hq - ⟨rfl, hI⟩
    simp only [go_sem]
    repeat (first | ((with_reducible refine AWp.ofC ?_ ?_); (focus exact rfl); simp only [go_sem]) | ((with_reducible refine an ?_ ?_); focus exact Au))
    refine ⟨fun h2 => ?_, fun h2 => ?_⟩
    · have hqp : q < ps.length := by omega
      refine AWp.seq (AWp.block (AWp.seq ?_))
      refine AWp.drawn mixed 8 (by kernel_rfl) ?_; simp only [go_sem, getD_map hqp]
      repeat ((with_reducible refine an ?_ ?_); focus exact As)
      repeat (first | ((with_reducible refine AWp.ofC ?_ ?_); (focus exact rfl); simp only [go_sem]) | ((with_reducible refine an ?_ ?_); focus exact Au))
      refine ⟨fun h3 => ?_, fun h3 => ?_⟩
      · repeat (first | ((with_reducible refine AWp.ofC ?_ ?_); (focus exact rfl); simp only [go_sem]) | ((with_reducible refine an ?_ ?_); focus exact Au))
        refine ret_eq ?_; simp only [go_sem]
        obtain ⟨y, hy, e⟩ := htk q hqp (by omega)
        rw [hpf, if_pos]
        rw [Bool.or_eq_true]
        exact .inr (List.any_eq_true.2 ⟨y, hy, decide_eq_true (e.trans h3)⟩)
      · repeat (first | ((with_reducible refine AWp.ofC ?_ ?_); (focus exact rfl); simp only [go_sem]) | ((with_reducible refine an ?_ ?_); focus exact Au))
        refine ⟨_, List.Sublist.refl _, rfl, fun r hr hrq => ?_⟩
        by_cases e : r = q
        · subst e; exact h3
        · exact hI r hr (by omega)
    · have hno : (ps.take p).any (fun y => decide (y.name = ps[p].name)) = false := by
        rw [List.any_eq_false]
        intro y hy
        obtain ⟨r, hr, rfl⟩ := List.getElem_of_mem hy
        have hr' : r < p := by rw [List.length_take] at hr; omega
        rw [List.getElem_take]
        simpa using hI r (by omega) (by omega)
      have hpf : procF ps p = if 8 < ps[p].vars.length then 5 else if fstF (varF ps[p].vars) ps[p].vars.length ≠ 0 then fstF (varF ps[p].vars) ps[p].vars.length else if 64 < ps[p].evs.length then 5 else 0 := by
        rw [hpf, if_neg (by rw [h1, hno]; decide)]
      repeat (first | ((with_reducible refine AWp.ofC ?_ ?_); (focus exact rfl); simp only [go_sem]) | ((with_reducible refine an ?_ ?_); focus exact Au))
      repeat (first | ((with_reducible refine AWp.ofC ?_ ?_); (focus exact rfl); simp only [go_sem]) | ((with_reducible refine an ?_ ?_); focus exact Au))
      refine ⟨fun h4 => ?_, fun h4 => ?_⟩
      · repeat (first | ((with_reducible refine AWp.ofC ?_ ?_); (focus exact rfl); simp only [go_sem]) | ((with_reducible refine an ?_ ?_); focus exact Au))
        refine ret_eq ?_; simp only [go_sem]
        rw [hpf, if_pos (by omega)]
      · have hpf : procF ps p = if fstF (varF ps[p].vars) ps[p].vars.length ≠ 0 then fstF (varF ps[p].vars) ps[p].vars.length else if 64 < ps[p].evs.length then 5 else 0 := by
          rw [hpf, if_neg (by omega)]
        repeat (first | ((with_reducible refine AWp.ofC ?_ ?_); (focus exact rfl); simp only [go_sem]) | ((with_reducible refine an ?_ ?_); focus exact Au))
        generalize ps[p].vars = vrs at *
        refine AWp.block (AWp.count 7 vrs.length [] [5] (fun i vs L => L = [] ∧ ∀ j, j < i → varF vrs j = 0) rfl rfl ⟨rfl, by omega⟩ ?_)
        rintro i vs L hi - ⟨rfl, hV⟩
        simp only [go_sem]
        repeat (first | ((with_reducible refine AWp.ofC ?_ ?_); (focus exact rfl); simp only [go_sem]) | ((with_reducible refine an ?_ ?_); focus exact Au))
        refine ⟨fun h5 => ?_, fun h5 => ?_⟩
        · have hiv : i < vrs.length := by omega
          have e3 : vrs[i]? = some vrs[i] := List.getElem?_eq_getElem hiv
          have hvf : varF vrs i = if !nameOk vrs[i].1 || (vrs.take i).any (fun w => decide (w.1 = vrs[i].1)) then 13 else if !inI vrs[i].2 (-1073741824) 1073741824 then 2 else 0 := by simp only [varF, e3]
          have hret : varF vrs i ≠ 0 → procF ps p = varF vrs i := fun h => by
            rw [hpf, fstF_hit hiv hV h, if_pos h]
          repeat (first | ((with_reducible refine AWp.ofC ?_ ?_); (focus exact rfl); simp only [go_sem, getD_map hiv]) | ((with_reducible refine an ?_ ?_); focus exact Au))
          repeat ((with_reducible refine an ?_ ?_); focus exact As)
          refine (ref12_Name _).val.use ?_; simp only [go_sem]
          repeat (first | ((with_reducible refine AWp.ofC ?_ ?_); (focus exact rfl); simp only [go_sem]) | ((with_reducible refine an ?_ ?_); focus exact Au))
          refine ⟨fun h6 => ?_, fun h6 => ?_⟩
          · repeat (first | ((with_reducible refine AWp.ofC ?_ ?_); (focus exact rfl); simp only [go_sem]) | ((with_reducible refine an ?_ ?_); focus exact Au))
            refine ret_eq ?_; simp only [go_sem]
            have hv13 : varF vrs i = 13 := by rw [hvf, if_pos (by rw [h6]; rfl)]
            rw [hret (by rw [hv13]; decide), hv13]
          · repeat (first | ((with_reducible refine AWp.ofC ?_ ?_); (focus exact rfl); simp only [go_sem]) | ((with_reducible refine an ?_ ?_); focus exact Au))
            refine AWp.block (AWp.count 8 i [] [5, 7] (fun j vs L => L = [] ∧ ∀ (r : Nat) (hr : r < vrs.length), r < j → vrs[r].1 ≠ vrs[i].1) rfl rfl ⟨rfl, by omega⟩ ?_)
            rintro j vs L hj - ⟨rfl, hJ⟩
            simp only [go_sem]
            repeat (first | ((with_reducible refine AWp.ofC ?_ ?_); (focus exact rfl); simp only [go_sem]) | ((with_reducible refine an ?_ ?_); focus exact Au))
            refine ⟨fun h7 => ?_, fun h7 => ?_⟩
            · have hjv : j < vrs.length := by omega
              refine AWp.seq (AWp.block (AWp.seq ?_))
              refine AWp.drawn mixed 12 (by kernel_rfl) ?_; simp only [go_sem, getD_map hiv, getD_map hjv]
              repeat ((with_reducible refine an ?_ ?_); focus exact As)
              repeat (first | ((with_reducible refine AWp.ofC ?_ ?_); (focus exact rfl); simp only [go_sem]) | ((with_reducible refine an ?_ ?_); focus exact Au))
              refine ⟨fun h8 => ?_, fun h8 => ?_⟩
              · repeat (first | ((with_reducible refine AWp.ofC ?_ ?_); (focus exact rfl); simp only [go_sem]) | ((with_reducible refine an ?_ ?_); focus exact Au))
                refine ret_eq ?_; simp only [go_sem]
                have hv13 : varF vrs i = 13 := by
                  rw [hvf, if_pos]
                  rw [Bool.or_eq_true]
                  refine .inr (List.any_eq_true.2 ⟨vrs[j], ?_, decide_eq_true h8⟩)
                  refine List.mem_of_getElem? (i := j) ?_
                  rw [List.getElem?_take, if_pos (by omega), List.getElem?_eq_getElem hjv]
                rw [hret (by rw [hv13]; decide), hv13]
              · repeat (first | ((with_reducible refine AWp.ofC ?_ ?_); (focus exact rfl); simp only [go_sem]) | ((with_reducible refine an ?_ ?_); focus exact Au))
                refine ⟨_, List.Sublist.refl _, rfl, fun r hr hrq => ?_⟩
                by_cases e : r = j
                · subst e; exact h8
                · exact hJ r hr (by omega)
            · have hno : (vrs.take i).any (fun w => decide (w.1 = vrs[i].1)) = false := by
                rw [List.any_eq_false]
                intro y hy
                obtain ⟨r, hr, rfl⟩ := List.getElem_of_mem hy
                have hr' : r < i := by rw [List.length_take] at hr; omega
                rw [List.getElem_take]
                simpa using hJ r (by omega) (by omega)
              repeat (first | ((with_reducible refine AWp.ofC ?_ ?_); (focus exact rfl); simp only [go_sem, getD_map hiv]) | ((with_reducible refine an ?_ ?_); focus exact Au))
              repeat ((with_reducible refine an ?_ ?_); focus exact As)
              refine (ref12_value _).val.use ?_; simp only [go_sem]
              repeat (first | ((with_reducible refine AWp.ofC ?_ ?_); (focus exact rfl); simp only [go_sem]) | ((with_reducible refine an ?_ ?_); focus exact Au))
              refine ⟨fun h8 => ?_, fun h8 => ?_⟩
              · repeat (first | ((with_reducible refine AWp.ofC ?_ ?_); (focus exact rfl); simp only [go_sem]) | ((with_reducible refine an ?_ ?_); focus exact Au))
                refine ret_eq ?_; simp only [go_sem]
                have hv2 : varF vrs i = 2 := by rw [hvf, if_neg (by rw [h6, hno]; decide), if_pos (by rw [h8]; rfl)]
                rw [hret (by rw [hv2]; decide), hv2]
              · repeat (first | ((with_reducible refine AWp.ofC ?_ ?_); (focus exact rfl); simp only [go_sem]) | ((with_reducible refine an ?_ ?_); focus exact Au))
                refine ⟨_, List.Sublist.refl _, rfl, fun r hr => ?_⟩
                by_cases e : r = i
                · subst e; rw [hvf, if_neg (by rw [h6, hno]; decide), if_neg (by rw [h8]; decide)]
                · exact hV r (by omega)
        · have hz := fstF_none (f := varF vrs) (n := vrs.length) fun r hr => hV r (by omega)
          repeat (first | ((with_reducible refine AWp.ofC ?_ ?_); (focus exact rfl); simp only [go_sem]) | ((with_reducible refine an ?_ ?_); focus exact Au))
          repeat (first | ((with_reducible refine AWp.ofC ?_ ?_); (focus exact rfl); simp only [go_sem]) | ((with_reducible refine an ?_ ?_); focus exact Au))
          refine ⟨fun h6 => ?_, fun h6 => ?_⟩
          · repeat (first | ((with_reducible refine AWp.ofC ?_ ?_); (focus exact rfl); simp only [go_sem]) | ((with_reducible refine an ?_ ?_); focus exact Au))
            refine ret_eq ?_; simp only [go_sem]
            rw [hpf, hz, if_neg (by simp), if_pos (by omega)]
          · repeat (first | ((with_reducible refine AWp.ofC ?_ ?_); (focus exact rfl); simp only [go_sem]) | ((with_reducible refine an ?_ ?_); focus exact Au))
            refine ret_eq ?_; simp only [go_sem]
            rw [hpf, hz, if_neg (by simp), if_neg (by omega)]
end Go.AL
end
