/- Vector clocks, plainly: senders, sums, and what is kept in an execution. No condition. -/
import Derived.Test.YtkfkdmefabefkaaWStp
namespace Go.AL
open Go Go.RowKit
set_option maxRecDepth 4000
theorem valid_parts {ps : List Pr} (h : validF ps = true) : procFirst ps = none ∧ evFirst ps = none ∧ msgF ps = none := by
  have hp : ∀ x, procFirst ps = some x → x.2 ≠ 0 := fun x hx => by
    unfold procFirst at hx
    rw [Option.map_eq_some_iff] at hx
    obtain ⟨k, hk, rfl⟩ := hx
    simpa using List.find?_some hk
  have he : ∀ x, evFirst ps = some x → x.2 ≠ 0 := fun x hx => by
    unfold evFirst at hx
    rw [Option.map_eq_some_iff] at hx
    obtain ⟨k, hk, rfl⟩ := hx
    simpa using List.find?_some hk
  have hmm : ∀ x, msgF ps = some x → x.2 ≠ 0 := fun x hx => by
    unfold msgF at hx
    split at hx
    · rename_i k hk
      cases hx
      simpa using List.find?_some hk
    · cases hx
  unfold validF faultF at h
  simp only [decide_eq_true_eq] at h
  split at h
  · simp at h
  · cases hpf : procFirst ps with
    | some x => rw [hpf] at h; exact absurd h (hp x hpf)
    | none =>
      rw [hpf] at h
      cases hef : evFirst ps with
      | some x => rw [hef] at h; exact absurd h (he x hef)
      | none =>
        rw [hef] at h
        cases hmf : msgF ps with
        | some x => rw [hmf] at h; exact absurd h (hmm x hmf)
        | none => exact ⟨rfl, rfl, rfl⟩
theorem valid_formed {ps : List Pr} (h : validF ps = true) : Formed ps := formed_of_evFirst (valid_parts h).2.1
/-- No two events send one number. -/
theorem valid_unique {ps : List Pr} (h : validF ps = true) {p : Nat} (hp : p < ps.length) {i : Nat} (hi : i < ps[p].evs.length) (hk : ps[p].evs[i].kind = 2) : sndr ps ps[p].evs[i].msg = ((p : Int), (i : Int) + 1) := by
  have hev := evIds_get hp hi
  have hlt : off ps p + i < (evIds ps).length := (List.getElem?_eq_some_iff.1 hev).1
  have hpz : pairF ps (off ps p + i) = 0 := by
    have hm := (valid_parts h).2.2
    unfold msgF at hm
    split at hm
    · cases hm
    · rename_i hn
      rw [List.find?_eq_none] at hn
      simpa using hn _ (List.mem_range.2 hlt)
  unfold pairF at hpz
  rw [hev] at hpz
  simp only [hk, if_true] at hpz
  have hno : ¬ 0 < (findIn ((evIds ps).take (off ps p + i)) 2 ps[p].evs[i].msg).2 := by
    intro h0; rw [if_pos h0] at hpz; cases hpz
  unfold sndr
  refine findIn_hit hev (fun j y hj hy hc => hno ?_) ⟨hk, rfl⟩
  have hmem : y ∈ (evIds ps).take (off ps p + i) := by
    refine List.mem_of_getElem? (i := j) ?_
    rw [List.getElem?_take, if_pos hj]; exact hy
  unfold findIn
  cases hf : ((evIds ps).take (off ps p + i)).find? (fun x => decide (x.2.kind = 2) && decide (x.2.msg = ps[p].evs[i].msg)) with
  | some x => exact evIds_pos ps x (List.mem_of_mem_take (List.mem_of_find?_eq_some hf))
  | none =>
    rw [List.find?_eq_none] at hf
    have := hf y hmem
    simp [hc.1, hc.2] at this
theorem sndr_some {ps : List Pr} {m : Int} (h : 0 < (sndr ps m).2) : ∃ (p : Nat) (hp : p < ps.length) (i : Nat) (hi : i < ps[p].evs.length), sndr ps m = ((p : Int), (i : Int) + 1) ∧ ps[p].evs[i].kind = 2 ∧ ps[p].evs[i].msg = m := by
  obtain ⟨e, he, h1, h2⟩ := findIn_mem h
  obtain ⟨k, hk⟩ := List.getElem?_of_mem he
  obtain ⟨p, hp, i, hi, _, e2⟩ := evIds_inv hk
  have e3 := congrArg Prod.fst e2
  have e4 := congrArg Prod.snd e2
  dsimp only at e3 e4
  subst e4
  exact ⟨p, hp, i, hi, e3, h1, h2⟩
/-- What lies in the table of messages sent. -/
def sentA (ps : List Pr) (S : Nat → List (List Int)) (m : Int) : AV :=
  if 0 < (sndr ps m).2 ∧ (sndr ps m).2 ≤ (S (sndr ps m).1.toNat).length then aInts (stOf S (sndr ps m).1.toNat ((sndr ps m).2 - 1).toNat) else anil
theorem sentA_init (ps : List Pr) (m : Int) : sentA ps (fun _ => []) m = anil := by
  unfold sentA
  rw [if_neg (by simp)]
theorem sentA_step {ps : List Pr} {S : Nat → List (List Int)} (hv : validF ps = true) {p : Nat} (hr : Rdy ps (lenS S) p) (v : List Int) (m : Int) :
    sentA ps (upS S p v) m = if (evq ps p (S p).length).kind = 2 ∧ (evq ps p (S p).length).msg = m then aInts v else sentA ps S m := by
  obtain ⟨hp, hl, _⟩ := hr
  simp only [lenS] at hl
  have hl' : (S p).length < ps[p].evs.length := by rw [nev_get hp] at hl; exact hl
  rw [evq_get hp hl']
  by_cases hc : ps[p].evs[(S p).length].kind = 2 ∧ ps[p].evs[(S p).length].msg = m
  · rw [if_pos hc]
    have hs := valid_unique hv hp hl' hc.1
    rw [hc.2] at hs
    unfold sentA
    rw [hs]
    simp only [Int.toNat_natCast]
    have e : ((((S p).length : Int) + 1) - 1).toNat = (S p).length := by omega
    rw [e, upS_new, if_pos]
    rw [upS_len, if_pos rfl]
    omega
  · rw [if_neg hc]
    unfold sentA
    by_cases h0 : 0 < (sndr ps m).2
    · obtain ⟨q, hq, i, hi, e, k1, k2⟩ := sndr_some h0
      rw [e]
      simp only [Int.toNat_natCast]
      have e1 : (((i : Int) + 1) - 1).toNat = i := by omega
      rw [e1]
      have hiff : (i : Int) + 1 ≤ (upS S p v q).length ↔ (i : Int) + 1 ≤ (S q).length := by
        rw [upS_len]
        by_cases eq : q = p
        · subst eq
          rw [if_pos rfl]
          have : i ≠ (S q).length := fun ei => by subst ei; exact hc ⟨k1, k2⟩
          omega
        · rw [if_neg eq]
      by_cases hin : (i : Int) + 1 ≤ (S q).length
      · rw [if_pos ⟨by omega, hiff.2 hin⟩, if_pos ⟨by omega, hin⟩, upS_old (by omega)]
      · rw [if_neg fun h => hin (hiff.1 h.2), if_neg fun h => hin h.2]
    · rw [if_neg fun h => h0 h.1, if_neg fun h => h0 h.1]
def totS (n : Nat) (c : Nat → Nat) : Nat := ((List.range n).map c).sum
theorem totS_succ (n : Nat) (c : Nat → Nat) : totS (n + 1) c = totS n c + c n := by simp [totS, List.range_succ]
theorem totS_bump {c c' : Nat → Nat} {p : Nat} (h : ∀ q, c' q = if q = p then c q + 1 else c q) (n : Nat) : totS n c' = totS n c + if p < n then 1 else 0 := by
  induction n with
  | zero => simp [totS]
  | succ n ih =>
    rw [totS_succ, totS_succ, ih, h n]
    by_cases e : n = p
    · subst e; rw [if_pos rfl, if_neg (by omega), if_pos (by omega)]; omega
    · rw [if_neg e]
      by_cases h1 : p < n
      · rw [if_pos h1, if_pos (by omega)]; omega
      · rw [if_neg h1, if_neg (by omega)]; omega
theorem totS_up {S : Nat → List (List Int)} {p n : Nat} (hp : p < n) (v : List Int) : totS n (lenS (upS S p v)) = totS n (lenS S) + 1 := by
  rw [totS_bump (c := lenS S) (p := p) (fun q => by unfold lenS; rw [upS_len]; split <;> simp_all) n, if_pos hp]
theorem totS_le {c : Nat → Nat} {B : Nat} (n : Nat) (h : ∀ q, q < n → c q ≤ B) : totS n c ≤ n * B := by
  induction n with
  | zero => simp [totS]
  | succ n ih =>
    rw [totS_succ, Nat.add_mul]
    have := ih fun q hq => h q (by omega)
    have := h n (by omega)
    omega
theorem totS_done {order : List Int} {n k : Nat} (hk : k ≤ order.length) (h : ∀ j, j < k → 0 ≤ order.getD j 0 ∧ order.getD j 0 < n) : totS n (doneF order k) = k := by
  induction k with
  | zero =>
    have : totS n (doneF order 0) ≤ n * 0 := totS_le n fun q _ => by rw [doneF_zero]; omega
    omega
  | succ k ih =>
    have h0 := h k (by omega)
    have hi := ih (by omega) fun j hj => h j (by omega)
    rw [totS_bump (c := doneF order k) (p := (order.getD k 0).toNat) (fun q => by
      rw [doneF_succ (by omega) h0.1]
      by_cases e : q = (order.getD k 0).toNat
      · rw [if_pos e, if_pos e.symm]
      · rw [if_neg e, if_neg (Ne.symm e), Nat.add_zero]) n, if_pos (by omega), hi]
theorem gen_exists {ps : List Pr} (hs : Sm ps) : ∃ S, Gen ps S ∧ ∀ p, ¬ Rdy ps (lenS S) p := by
  have hb : ∀ S, Gen ps S → totS ps.length (lenS S) ≤ ps.length * 1000000 := fun S h => totS_le _ fun q hq => by
    have h1 := h.le_nev q
    rw [nev_get hq] at h1
    have h2 := hs.evs _ (List.getElem_mem hq)
    unfold lenS; omega
  have key : ∀ m S, Gen ps S → ps.length * 1000000 - totS ps.length (lenS S) ≤ m → ∃ S, Gen ps S ∧ ∀ p, ¬ Rdy ps (lenS S) p := by
    intro m
    induction m with
    | zero =>
      intro S h hm
      refine ⟨S, h, fun p hr => ?_⟩
      have h1 := hb _ (h.step hr)
      rw [totS_up hr.1] at h1
      omega
    | succ m ih =>
      intro S h hm
      by_cases hx : ∃ p, Rdy ps (lenS S) p
      · obtain ⟨p, hr⟩ := hx
        refine ih _ (h.step hr) ?_
        rw [totS_up hr.1]
        omega
      · exact ⟨S, h, fun p hr => hx ⟨p, hr⟩⟩
  exact key _ _ .init (Nat.le_refl _)
theorem stampF_gen {ps : List Pr} (hs : Sm ps) : Gen ps (stampF ps) ∧ ∀ p, ¬ Rdy ps (lenS (stampF ps)) p := by
  obtain ⟨S, h, hm⟩ := gen_exists hs
  rw [stampF_eq h hm]; exact ⟨h, hm⟩
/-! ### What is kept -/
theorem zip_getD (f : Int → Int → Int) {a b : List Int} {n j : Nat} (ha : a.length = n) (hb : b.length = n) (hj : j < n) : (List.zipWith f a b).getD j 0 = f (a.getD j 0) (b.getD j 0) := by
  rw [List.getD_eq_getElem?_getD, List.getElem?_zipWith]
  simp [show j < a.length by omega, show j < b.length by omega]
theorem foldl_col {f : Int → Int → Int} {P : Int → Prop} (hf : ∀ a b, P a → P b → P (f a b)) {n j : Nat} (hj : j < n) : ∀ (rs : List (List Int)) (r0 : List Int), r0.length = n → (∀ r ∈ rs, r.length = n) → P (r0.getD j 0) → (∀ r ∈ rs, P (r.getD j 0)) →
    P ((rs.foldl (List.zipWith f) r0).getD j 0)
  | [], _, _, _, h, _ => h
  | r :: rs, r0, hl, hrl, h, hr => foldl_col hf hj rs _ (by rw [List.length_zipWith, hl, hrl r (by simp)]; omega) (fun r' h' => hrl r' (List.mem_cons_of_mem _ h'))
      (by rw [zip_getD f hl (hrl r (by simp)) hj]; exact hf _ _ h (hr r (by simp))) (fun r' h' => hr r' (List.mem_cons_of_mem _ h'))
/-- A value that each step keeps within a bound stays within it. -/
theorem foldl_keep {f : Int → Int → Int} {P : Int → Prop} (hf : ∀ a b, P a → P (f a b)) {n j : Nat} (hj : j < n) : ∀ (rs : List (List Int)) (r0 : List Int), r0.length = n → (∀ r ∈ rs, r.length = n) → P (r0.getD j 0) → P ((rs.foldl (List.zipWith f) r0).getD j 0)
  | [], _, _, _, h => h
  | r :: rs, r0, hl, hrl, h => foldl_keep hf hj rs _ (by rw [List.length_zipWith, hl, hrl r (by simp)]; omega) (fun r' h' => hrl r' (List.mem_cons_of_mem _ h')) (by rw [zip_getD f hl (hrl r (by simp)) hj]; exact hf _ _ h)
theorem foldl_hit {f : Int → Int → Int} {P : Int → Prop} (hf : ∀ a b, P a → P (f a b)) {n j : Nat} (hj : j < n) (hg : ∀ a b, P b → P (f a b)) : ∀ (rs : List (List Int)) (r0 : List Int), r0.length = n → (∀ r ∈ rs, r.length = n) → (∃ r ∈ rs, P (r.getD j 0)) → P ((rs.foldl (List.zipWith f) r0).getD j 0)
  | [], _, _, _, h => by obtain ⟨_, h, _⟩ := h; cases h
  | r :: rs, r0, hl, hrl, h => by
    have hzl : (List.zipWith f r0 r).length = n := by rw [List.length_zipWith, hl, hrl r (by simp)]; omega
    have hrl' : ∀ r' ∈ rs, r'.length = n := fun r' h' => hrl r' (List.mem_cons_of_mem _ h')
    obtain ⟨x, hx, hP⟩ := h
    rcases List.mem_cons.1 hx with rfl | hx
    · exact foldl_keep hf hj rs _ hzl hrl' (by rw [zip_getD f hl (hrl x (by simp)) hj]; exact hg _ _ hP)
    · exact foldl_hit hf hj hg rs _ hzl hrl' ⟨x, hx, hP⟩
theorem foldF_col {f : Int → Int → Int} {P : Int → Prop} (hf : ∀ a b, P a → P b → P (f a b)) {l : List (List Int)} {n j : Nat} (h1 : l ≠ []) (hl : ∀ r ∈ l, r.length = n) (hj : j < n) (h : ∀ r ∈ l, P (r.getD j 0)) : P ((foldF f l).getD j 0) := by
  cases l with
  | nil => exact absurd rfl h1
  | cons r0 rs => exact foldl_col hf hj rs r0 (hl r0 (by simp)) (fun r hr => hl r (List.mem_cons_of_mem _ hr)) (h r0 (by simp)) fun r hr => h r (List.mem_cons_of_mem _ hr)
theorem foldF_max {l : List (List Int)} {n j : Nat} (hl : ∀ r ∈ l, r.length = n) (hj : j < n) : ∀ r ∈ l, r.getD j 0 ≤ (foldF max l).getD j 0 := by
  cases l with
  | nil => intro r h; cases h
  | cons r0 rs =>
    intro r hr
    have hrl : ∀ r ∈ rs, r.length = n := fun r hr => hl r (List.mem_cons_of_mem _ hr)
    rcases List.mem_cons.1 hr with rfl | hr
    · exact foldl_keep (P := fun x => r.getD j 0 ≤ x) (fun a b h => by omega) hj rs r (hl r (by simp)) hrl (Int.le_refl _)
    · exact foldl_hit (P := fun x => r.getD j 0 ≤ x) (fun a b h => by omega) hj (fun a b h => by omega) rs r0 (hl r0 (by simp)) hrl ⟨r, hr, Int.le_refl _⟩
theorem foldF_min {l : List (List Int)} {n j : Nat} (hl : ∀ r ∈ l, r.length = n) (hj : j < n) : ∀ r ∈ l, (foldF min l).getD j 0 ≤ r.getD j 0 := by
  cases l with
  | nil => intro r h; cases h
  | cons r0 rs =>
    intro r hr
    have hrl : ∀ r ∈ rs, r.length = n := fun r hr => hl r (List.mem_cons_of_mem _ hr)
    rcases List.mem_cons.1 hr with rfl | hr
    · exact foldl_keep (P := fun x => x ≤ r.getD j 0) (fun a b h => by omega) hj rs r (hl r (by simp)) hrl (Int.le_refl _)
    · exact foldl_hit (P := fun x => x ≤ r.getD j 0) (fun a b h => by omega) hj (fun a b h => by omega) rs r0 (hl r0 (by simp)) hrl ⟨r, hr, Int.le_refl _⟩
theorem sum_le_tot {c : Nat → Nat} : ∀ (Z : List Int), (∀ j, j < Z.length → Z.getD j 0 ≤ c j) → Z.sum ≤ totS Z.length c := by
  intro Z
  have key : ∀ k, k ≤ Z.length → (∀ j, j < Z.length → Z.getD j 0 ≤ c j) → (Z.take k).sum ≤ totS k c := by
    intro k
    induction k with
    | zero => intro _ _; simp [totS]
    | succ k ih =>
      intro hk h
      rw [sum_take Z k (by omega), totS_succ]
      have h1 := ih (by omega) h
      have h2 := h k (by omega)
      have e : Z.getD k 0 = Z[k] := by simp [show k < Z.length by omega]
      rw [e] at h2
      omega
  intro h
  have := key Z.length (Nat.le_refl _) h
  rwa [List.take_length] at this
theorem sum_nonneg : ∀ (Z : List Int), (∀ z ∈ Z, 0 ≤ z) → 0 ≤ Z.sum
  | [], _ => by simp
  | z :: Z, h => by
    have h1 := h z (by simp)
    have h2 := sum_nonneg Z fun z hz => h z (List.mem_cons_of_mem _ hz)
    simp only [List.sum_cons]; omega
theorem sum_ge : ∀ (Z : List Int) {x : Int}, (∀ z ∈ Z, 0 ≤ z) → x ∈ Z → x ≤ Z.sum
  | [], _, _, hx => by cases hx
  | z :: Z, x, h, hx => by
    have h1 := h z (by simp)
    have h2 := sum_nonneg Z fun z hz => h z (List.mem_cons_of_mem _ hz)
    simp only [List.sum_cons]
    rcases List.mem_cons.1 hx with rfl | hx
    · omega
    · have := sum_ge Z (fun z hz => h z (List.mem_cons_of_mem _ hz)) hx; omega
noncomputable def knownF (ps : List Pr) (order : List Int) (k : Nat) : List (List Int) :=
  (List.range ps.length).map fun q => if doneF order k q = 0 then List.replicate ps.length 0 else stOf (stampF ps) q (doneF order k q - 1)
noncomputable def peakF (ps : List Pr) (order : List Int) : Nat → Int
  | 0 => 0
  | k + 1 => max (peakF ps order k) (keptF (knownF ps order (k + 1)))
theorem known_rows {ps : List Pr} (hg : Gen ps (stampF ps)) (hm : ∀ p, ¬ Rdy ps (lenS (stampF ps)) p) {order : List Int} {k : Nat} (hk : k ≤ order.length) (hr : RunOk ps order k) :
    ∀ r ∈ knownF ps order k, r.length = ps.length ∧ ∀ j, 0 ≤ r.getD j 0 ∧ r.getD j 0 ≤ doneF order k j := by
  intro r hmem
  unfold knownF at hmem
  obtain ⟨q, hq, rfl⟩ := List.mem_map.1 hmem
  by_cases h0 : doneF order k q = 0
  · rw [if_pos h0]
    exact ⟨by simp, fun j => by rw [zeros_getD]; omega⟩
  · rw [if_neg h0]
    have hle := run_le hm hk hr q
    exact ⟨(hg.bound q _ (by omega)).1, run_bound hg hm hk hr q _ (by omega)⟩
theorem known_len (ps : List Pr) (order : List Int) (k : Nat) : (knownF ps order k).length = ps.length := by simp [knownF]
theorem known_ne {ps : List Pr} (hn : 1 ≤ ps.length) (order : List Int) (k : Nat) : knownF ps order k ≠ [] := fun h => by
  have := known_len ps order k; rw [h] at this; simp at this; omega
theorem kZ_get {l : List (List Int)} {n j : Nat} (h1 : 1 ≤ l.length) (h : ∀ r ∈ l, r.length = n) (hj : j < n) : (kZ l).length = n ∧ (kZ l).getD j 0 = (foldF max l).getD j 0 - (foldF min l).getD j 0 := by
  have hM := foldF_len (f := max) h1 h
  have hm := foldF_len (f := min) h1 h
  refine ⟨by unfold kZ; rw [List.length_zipWith]; omega, ?_⟩
  unfold kZ
  exact zip_getD _ hM hm hj
theorem kZ_nonneg {l : List (List Int)} {n : Nat} (h1 : 1 ≤ l.length) (hn : 1 ≤ n) (h : ∀ r ∈ l, r.length = n) : ∀ z ∈ kZ l, 0 ≤ z := by
  intro z hz
  have hlen := (kZ_get h1 h (show 0 < n by omega)).1
  obtain ⟨j, hj, rfl⟩ := List.getElem_of_mem hz
  have hjn : j < n := by omega
  have e := (kZ_get h1 h hjn).2
  have e2 : (kZ l).getD j 0 = (kZ l)[j] := by simp [hj]
  cases l with
  | nil => simp at h1
  | cons r0 rs =>
    have a := foldF_max h hjn r0 (by simp)
    have b := foldF_min h hjn r0 (by simp)
    omega
/-- What is kept is at most what was executed. -/
theorem kept_le {ps : List Pr} (hn : 1 ≤ ps.length) (hg : Gen ps (stampF ps)) (hm : ∀ p, ¬ Rdy ps (lenS (stampF ps)) p) {order : List Int} {k : Nat} (hk : k ≤ order.length) (hr : RunOk ps order k) :
    0 ≤ keptF (knownF ps order k) ∧ keptF (knownF ps order k) ≤ k := by
  have hrow := known_rows hg hm hk hr
  have h1 : 1 ≤ (knownF ps order k).length := by rw [known_len]; exact hn
  have hl : ∀ r ∈ knownF ps order k, r.length = ps.length := fun r h => (hrow r h).1
  refine ⟨sum_nonneg _ (kZ_nonneg h1 hn hl), ?_⟩
  have hlen := (kZ_get h1 hl (show 0 < ps.length by omega)).1
  have hs := sum_le_tot (c := doneF order k) (kZ (knownF ps order k)) fun j hj => by
    have hjn : j < ps.length := by omega
    rw [(kZ_get h1 hl hjn).2]
    have a := foldF_col (f := max) (P := fun x => x ≤ (doneF order k j : Int)) (fun a b ha hb => by omega) (known_ne hn order k) hl hjn fun r h => ((hrow r h).2 j).2
    have b := foldF_col (f := min) (P := fun x => (0 : Int) ≤ x) (fun a b ha hb => by omega) (known_ne hn order k) hl hjn fun r h => ((hrow r h).2 j).1
    omega
  rw [hlen, totS_done hk fun j hj => ⟨(hr j hj).1, by have := (hr j hj).2.1; have := (hr j hj).1; omega⟩] at hs
  exact hs
/-- After the first step something is kept, if there are two processes. -/
theorem kept_first {ps : List Pr} (hn : 2 ≤ ps.length) (hg : Gen ps (stampF ps)) (hm : ∀ p, ¬ Rdy ps (lenS (stampF ps)) p) {order : List Int} (hk : 1 ≤ order.length) (hr : RunOk ps order 1) : 1 ≤ keptF (knownF ps order 1) := by
  have hrow := known_rows hg hm hk hr
  have h1 : 1 ≤ (knownF ps order 1).length := by rw [known_len]; omega
  have hl : ∀ r ∈ knownF ps order 1, r.length = ps.length := fun r h => (hrow r h).1
  obtain ⟨h0, hp, hlt, hk3⟩ := hr 0 (by omega)
  rw [doneF_zero] at hlt hk3
  have hle := run_le hm hk hr
  generalize hpd : (order.getD 0 0).toNat = p at *
  have hd : ∀ q, doneF order 1 q = if p = q then 1 else 0 := fun q => by
    have := doneF_succ (order := order) (k := 0) (by omega) h0 q
    rw [hpd, doneF_zero] at this
    simpa using this
  have hkind : (evq ps p 0).kind ≠ 3 := fun h3 => by
    have := hk3 h3; rw [doneF_zero] at this; omega
  have hst : stOf (stampF ps) p 0 = tickV (List.replicate ps.length 0) p := by
    have hlp : 0 < (stampF ps p).length := by have := hle p; rw [hd, if_pos rfl] at this; omega
    rw [(hg.eqn p 0 hlp).2.2.1]
    unfold vecV rawV preV
    rw [if_neg hkind, if_pos rfl]
  have hmemp : tickV (List.replicate ps.length 0) p ∈ knownF ps order 1 := by
    unfold knownF
    refine List.mem_map.2 ⟨p, List.mem_range.2 hp, ?_⟩
    rw [hd, if_pos rfl, if_neg (by omega)]
    exact hst
  obtain ⟨q, hq, hqp⟩ : ∃ q, q < ps.length ∧ p ≠ q := by
    by_cases e : p = 0
    · exact ⟨1, by omega, by omega⟩
    · exact ⟨0, by omega, e⟩
  have hmemq : List.replicate ps.length 0 ∈ knownF ps order 1 := by
    unfold knownF
    refine List.mem_map.2 ⟨q, List.mem_range.2 hq, ?_⟩
    rw [hd, if_neg hqp, if_pos rfl]
  have a := foldF_max hl hp _ hmemp
  have b := foldF_min hl hp _ hmemq
  rw [tickV_getD, if_pos ⟨rfl, by simpa using hp⟩, zeros_getD] at a
  rw [zeros_getD] at b
  have hz := kZ_get h1 hl hp
  have hge := sum_ge (kZ (knownF ps order 1)) (x := (kZ (knownF ps order 1)).getD p 0) (kZ_nonneg h1 (by omega) hl) (by
    have : p < (kZ (knownF ps order 1)).length := by omega
    rw [List.getD_eq_getElem?_getD, List.getElem?_eq_getElem this]
    exact List.getElem_mem this)
  unfold keptF
  omega
theorem RunOk.le {ps : List Pr} {order : List Int} {k j : Nat} (h : RunOk ps order k) (hj : j ≤ k) : RunOk ps order j := fun i hi => h i (by omega)
theorem peak_bounds {ps : List Pr} (hn : 1 ≤ ps.length) (hg : Gen ps (stampF ps)) (hm : ∀ p, ¬ Rdy ps (lenS (stampF ps)) p) {order : List Int} {k : Nat} (hk : k ≤ order.length) (hr : RunOk ps order k) :
    0 ≤ peakF ps order k ∧ peakF ps order k ≤ k ∧ (1 ≤ k → 2 ≤ ps.length → 1 ≤ peakF ps order k) := by
  induction k with
  | zero => exact ⟨Int.le_refl _, Int.le_refl _, fun h => by omega⟩
  | succ k ih =>
    obtain ⟨h1, h2, h3⟩ := ih (by omega) (hr.le (by omega))
    obtain ⟨h4, h5⟩ := kept_le hn hg hm hk hr
    refine ⟨by unfold peakF; omega, by unfold peakF; omega, fun _ h2p => ?_⟩
    by_cases e : k = 0
    · subst e
      have h6 := kept_first h2p hg hm hk hr
      have e1 : peakF ps order (0 + 1) = max (peakF ps order 0) (keptF (knownF ps order 1)) := rfl
      rw [e1]; omega
    · have := h3 (by omega) h2p
      unfold peakF; omega
theorem take_doneF {order : List Int} {k j : Nat} (hj : j ≤ k) : doneF (order.take k) j = doneF order j := by
  funext q
  unfold doneF
  rw [List.take_take, Nat.min_eq_left hj]
theorem take_RunOk {ps : List Pr} {order : List Int} {k j : Nat} (hj : j ≤ k) : RunOk ps (order.take k) j ↔ RunOk ps order j := by
  unfold RunOk
  refine forall_congr' fun i => imp_congr_right fun hi => ?_
  rw [take_doneF (by omega)]
  have : (order.take k).getD i 0 = order.getD i 0 := by
    rw [List.getD_eq_getElem?_getD, List.getElem?_take, if_pos (by omega), List.getD_eq_getElem?_getD]
  rw [this]
theorem take_peakF {ps : List Pr} {order : List Int} {k j : Nat} (hj : j ≤ k) : peakF ps (order.take k) j = peakF ps order j := by
  induction j with
  | zero => rfl
  | succ j ih =>
    unfold peakF
    rw [ih (by omega)]
    unfold knownF
    rw [take_doneF hj]
end Go.AL
