/- Texts of this claim's proof: WDl, WPb, WPt, WPe, WVe, WPg. No condition. -/
import Derived.Test.YtkfkdmefabefkaaGreatDoorM7
import Derived.Test.YtkfkdmefabefkaaGreatDoorM9
section
/- A trace without a cut: it is valid, its states are those of the trace. Plain laws. No condition. -/
namespace Go.AL
open Go Go.RowKit
set_option maxRecDepth 4000
theorem dropEv_asg (S : Int → Bool) (e : Ev) : (dropEv S e).asg = e.asg ∧ (dropEv S e).time = e.time := by
  unfold dropEv; split <;> exact ⟨rfl, rfl⟩
theorem foldl_asg (S : Int → Bool) : ∀ (l : List Ev) (s : List Int), (l.map (dropEv S)).foldl (fun s e => assignL s e.asg) s = l.foldl (fun s e => assignL s e.asg) s
  | [], _ => rfl
  | e :: r, s => by simp only [List.map_cons, List.foldl_cons, (dropEv_asg S e).1]; exact foldl_asg S r _
theorem zip_snd {α β : Type} : ∀ (a : List α) (b : List β), a.length = b.length → (a.zip b).map (·.2) = b
  | [], [], _ => rfl
  | x :: a, y :: b, h => by simp only [List.zip_cons_cons, List.map_cons]; rw [zip_snd a b (by simpa using h)]
theorem stateAt_drop (S : Int → Bool) (x : Pr) (n k : Nat) : stateAt (dropP S x n) k = stateAt x (n + k) := by
  have h0 : (dropP S x n).vars.map (·.2) = stateAt x n := zip_snd _ _ (by rw [List.length_map, stateAt_length])
  show ((dropP S x n).evs.take k).foldl _ ((dropP S x n).vars.map (·.2)) = _
  rw [h0]
  show (((x.evs.drop n).map (dropEv S)).take k).foldl _ _ = _
  rw [← List.map_take, foldl_asg]
  unfold stateAt
  rw [← List.foldl_append, ← List.take_add]
theorem dropP_vars (S : Int → Bool) (x : Pr) (n : Nat) : (dropP S x n).vars.map (·.1) = x.vars.map (·.1) ∧ (dropP S x n).vars.length = x.vars.length ∧ (dropP S x n).name = x.name ∧ (dropP S x n).evs.length = x.evs.length - n := by
  have hl : (x.vars.map (·.1)).length = (stateAt x n).length := by rw [List.length_map, stateAt_length]
  refine ⟨?_, ?_, rfl, ?_⟩
  · show ((x.vars.map (·.1)).zip (stateAt x n)).map (·.1) = _
    rw [List.map_fst_zip (by omega)]
  · show ((x.vars.map (·.1)).zip (stateAt x n)).length = _
    rw [List.length_zip, ← hl, List.length_map]; omega
  · show ((x.evs.drop n).map _).length = _
    rw [List.length_map, List.length_drop]
theorem dropF_length {ps : List Pr} {c : List Int} (h : c.length = ps.length) : (dropF ps c).length = ps.length := by
  unfold dropF dropS; rw [List.length_map, List.length_zip]; omega
theorem dropF_get? {ps : List Pr} {c : List Int} (h : c.length = ps.length) {p : Nat} (hp : p < ps.length) : (dropF ps c)[p]? = some (dropP (sentB ps c) ps[p] (c[p]'(by omega)).toNat) := by
  unfold dropF dropS
  rw [List.getElem?_map, (List.getElem?_zip_eq_some (z := (ps[p], c[p]'(by omega)))).2 ⟨List.getElem?_eq_getElem hp, List.getElem?_eq_getElem (by omega)⟩]
  rfl
theorem dropF_get {ps : List Pr} {c : List Int} (h : c.length = ps.length) {p : Nat} (hp : p < ps.length) (hp' : p < (dropF ps c).length) : (dropF ps c)[p] = dropP (sentB ps c) ps[p] (c[p]'(by omega)).toNat :=
  Option.some.inj (by rw [← List.getElem?_eq_getElem hp', dropF_get? h hp])
/-! ### Names -/
theorem nmB_fst (s : ByteArray) : ∀ (a b : List (ByteArray × Int)), a.map (·.1) = b.map (·.1) → a.any (nmB s) = b.any (nmB s) ∧ varIx a s = varIx b s := by
  intro a b h
  have e1 : ∀ l : List (ByteArray × Int), l.any (nmB s) = (l.map (·.1)).any fun v => decide (v = s) := fun l => by rw [List.any_map]; rfl
  have e2 : ∀ l : List (ByteArray × Int), l.findIdx? (nmB s) = (l.map (·.1)).findIdx? fun v => decide (v = s) := fun l => by rw [List.findIdx?_map]; rfl
  refine ⟨by rw [e1, e1, h], ?_⟩
  unfold varIx
  rw [e2, e2, h]
/-! ### Values are small -/
theorem fstF_zero {f : Nat → Int} {n : Nat} (h : fstF f n = 0) : ∀ i, i < n → f i = 0 := by
  intro i
  induction i using Nat.strongRecOn with
  | _ i ih =>
    intro hi
    by_cases h0 : f i = 0
    · exact h0
    · rw [fstF_hit hi (fun j hj => ih j hj (by omega)) h0] at h; exact h
def smallV (y : Int) : Prop := -1073741824 ≤ y ∧ y ≤ 1073741824
theorem assignL_small : ∀ (l : List (Int × Int)) (s : List Int), (∀ y ∈ s, smallV y) → (∀ a ∈ l, smallV a.2) → ∀ y ∈ assignL s l, smallV y
  | [], s, hs, _ => hs
  | a :: r, s, hs, hl => by
    show ∀ y ∈ assignL (s.set a.1.toNat a.2) r, smallV y
    refine assignL_small r _ (fun y hy => ?_) fun b hb => hl b (List.mem_cons_of_mem _ hb)
    rcases List.mem_or_eq_of_mem_set hy with hy | rfl
    · exact hs y hy
    · exact hl a List.mem_cons_self
theorem foldl_small : ∀ (es : List Ev) (s : List Int), (∀ y ∈ s, smallV y) → (∀ e ∈ es, ∀ a ∈ e.asg, smallV a.2) → ∀ y ∈ es.foldl (fun s e => assignL s e.asg) s, smallV y
  | [], s, hs, _ => hs
  | e :: r, s, hs, hl => foldl_small r _ (assignL_small e.asg s hs (hl e List.mem_cons_self)) fun x hx => hl x (List.mem_cons_of_mem _ hx)
theorem procF_of_valid {ps : List Pr} (h : validF ps = true) {p : Nat} (hp : p < ps.length) : procF ps p = 0 := by
  have h0 := (valid_parts h).1
  unfold procFirst at h0
  rw [Option.map_eq_none_iff, List.find?_eq_none] at h0
  simpa using h0 p (List.mem_range.2 hp)
theorem procF_parts {ps : List Pr} {p : Nat} (hp : p < ps.length) : procF ps p = 0 ↔ (nameOk ps[p].name = true ∧ (ps.take p).any (fun y => decide (y.name = ps[p].name)) = false) ∧ ps[p].vars.length ≤ 8 ∧ (∀ i, i < ps[p].vars.length → varF ps[p].vars i = 0) ∧ ps[p].evs.length ≤ 64 := by
  have e : procF ps p = if !nameOk ps[p].name || (ps.take p).any (fun y => decide (y.name = ps[p].name)) then 13 else if 8 < ps[p].vars.length then 5 else
      if fstF (varF ps[p].vars) ps[p].vars.length ≠ 0 then fstF (varF ps[p].vars) ps[p].vars.length else if 64 < ps[p].evs.length then 5 else 0 := by
    unfold procF; simp only [List.getElem?_eq_getElem hp]
  rw [e]
  constructor
  · intro h
    split at h
    · cases h
    · rename_i h1
      split at h
      · cases h
      · split at h
        · rename_i h3; exact absurd h h3
        · rename_i h3
          split at h
          · cases h
          · simp only [Bool.or_eq_true, Bool.not_eq_true', not_or, Bool.not_eq_true] at h1
            exact ⟨⟨by simpa using h1.1, h1.2⟩, by omega, fstF_zero (by simpa using h3), by omega⟩
  · rintro ⟨⟨h1, h2⟩, h3, h4, h5⟩
    rw [if_neg (by rw [h1, h2]; decide), if_neg (by omega), if_neg (by rw [fstF_none h4]; decide), if_neg (by omega)]
theorem varF_parts {vs : List (ByteArray × Int)} {i : Nat} (hi : i < vs.length) : varF vs i = 0 ↔ (nameOk vs[i].1 = true ∧ (vs.take i).any (fun w => decide (w.1 = vs[i].1)) = false) ∧ smallV vs[i].2 := by
  have e : varF vs i = if !nameOk vs[i].1 || (vs.take i).any (fun w => decide (w.1 = vs[i].1)) then 13 else if !inI vs[i].2 (-1073741824) 1073741824 then 2 else 0 := by
    unfold varF; simp only [List.getElem?_eq_getElem hi]
  rw [e]
  constructor
  · intro h
    split at h
    · cases h
    · rename_i h1
      split at h
      · cases h
      · rename_i h2
        simp only [Bool.or_eq_true, Bool.not_eq_true', not_or, Bool.not_eq_true] at h1
        refine ⟨⟨by simpa using h1.1, h1.2⟩, ?_⟩
        simp only [inI, Bool.not_eq_true', Bool.not_eq_false, Bool.and_eq_true, decide_eq_true_eq] at h2
        exact h2
  · rintro ⟨⟨h1, h2⟩, h3⟩
    rw [if_neg (by rw [h1, h2]; decide), if_neg]
    simp only [inI, Bool.not_eq_true', Bool.not_eq_false, Bool.and_eq_true, decide_eq_true_eq]
    exact h3
theorem evF_parts {ps : List Pr} {p : Nat} (hp : p < ps.length) {i : Nat} (hi : i < ps[p].evs.length) : evF ps p i = 0 ↔ formedI ps.length p ps[p].evs[i] = true ∧ (0 ≤ ps[p].evs[i].time ∧ ps[p].evs[i].time ≤ 1099511627776 ∧ lastT ps[p].evs i ≤ ps[p].evs[i].time) ∧
    ps[p].evs[i].asg.length ≤ 8 ∧ ∀ k, k < ps[p].evs[i].asg.length → asgF ps[p].vars.length ps[p].evs[i].asg k = 0 := by
  have e : evF ps p i = if !formedI ps.length p ps[p].evs[i] then 3 else if !inI ps[p].evs[i].time 0 1099511627776 || decide (ps[p].evs[i].time < lastT ps[p].evs i) then 11 else if 8 < ps[p].evs[i].asg.length then 5 else fstF (asgF ps[p].vars.length ps[p].evs[i].asg) ps[p].evs[i].asg.length := by
    unfold evF; simp only [List.getElem?_eq_getElem hp, List.getElem?_eq_getElem hi]
  rw [e]
  constructor
  · intro h
    split at h
    · cases h
    · rename_i h1
      split at h
      · cases h
      · rename_i h2
        split at h
        · cases h
        · simp only [inI, Bool.or_eq_true, Bool.not_eq_true', not_or, Bool.not_eq_false, Bool.and_eq_true, decide_eq_true_eq] at h2
          exact ⟨by simpa using h1, ⟨h2.1.1, h2.1.2, by omega⟩, by omega, fstF_zero h⟩
  · rintro ⟨h1, ⟨h2, h3, h4⟩, h5, h6⟩
    rw [if_neg (by rw [h1]; decide), if_neg (by simp only [inI, Bool.or_eq_true, Bool.not_eq_true', not_or, Bool.not_eq_false, Bool.and_eq_true, decide_eq_true_eq]; omega), if_neg (by omega), fstF_none h6]
theorem evF_of_valid {ps : List Pr} (h : validF ps = true) {p : Nat} (hp : p < ps.length) {i : Nat} (hi : i < ps[p].evs.length) : evF ps p i = 0 := evFirst_get (valid_parts h).2.1 hp hi
theorem state_small {ps : List Pr} (h : validF ps = true) {p : Nat} (hp : p < ps.length) (k : Nat) : ∀ y ∈ stateAt ps[p] k, smallV y := by
  obtain ⟨_, _, hv, _⟩ := (procF_parts hp).1 (procF_of_valid h hp)
  refine foldl_small _ _ (fun y hy => ?_) fun e he a ha => ?_
  · obtain ⟨v, hv', rfl⟩ := List.mem_map.1 hy
    obtain ⟨i, hi, rfl⟩ := List.getElem_of_mem hv'
    exact ((varF_parts hi).1 (hv i hi)).2
  · obtain ⟨i, hi, rfl⟩ := List.getElem_of_mem (List.mem_of_mem_take he)
    obtain ⟨j, hj, rfl⟩ := List.getElem_of_mem ha
    have := asgF_of_valid h p hp i hi j hj
    unfold asgF at this
    simp only [List.getElem?_eq_getElem hj] at this
    split at this
    · cases this
    · rename_i hn
      simp only [inI, Bool.or_eq_true, Bool.not_eq_true', not_or, Bool.not_eq_false, Bool.and_eq_true, decide_eq_true_eq] at hn
      exact hn.2
theorem valid_cyc {ps : List Pr} (h : validF ps = true) : cycF ps = none := by
  obtain ⟨h1, h2, h3⟩ := valid_parts h
  unfold validF faultF at h
  rw [h1, h2, h3] at h
  simp only [decide_eq_true_eq] at h
  split at h
  · cases h
  · split at h
    · cases h
    · assumption
theorem valid_of {ps : List Pr} (h0 : 1 ≤ ps.length ∧ ps.length ≤ 8) (h1 : ∀ p, p < ps.length → procF ps p = 0) (h2 : ∀ p (hp : p < ps.length) i, i < ps[p].evs.length → evF ps p i = 0) (h3 : msgF ps = none) (h4 : cycF ps = none) : validF ps = true := by
  have e1 : procFirst ps = none := procFirst_none h1
  have e2 : evFirst ps = none := evFirst_none fun j y hy => by
    obtain ⟨p, hp, i, hi, _, rfl⟩ := evIds_inv hy
    have := h2 p hp i hi
    simpa [evAt, show ((i : Int) + 1 - 1).toNat = i by omega] using this
  unfold validF faultF
  rw [e1, e2, h3, h4, if_neg (by simp only [inI, Bool.not_eq_true', Bool.not_eq_false, Bool.and_eq_true, decide_eq_true_eq]; omega)]
  rfl
/-! ### The dropped trace is valid -/
section
variable {ps : List Pr} {c : List Int}
/-- An event of the dropped trace is one of the trace, further on. -/
theorem drop_ev (hc : c.length = ps.length) {p : Nat} (hp' : p < (dropF ps c).length) {i : Nat} (hi' : i < (dropF ps c)[p].evs.length) :
    ∃ (hp : p < ps.length) (hpc : p < c.length) (hi : c[p].toNat + i < ps[p].evs.length), (dropF ps c)[p].evs[i] = dropEv (sentB ps c) ps[p].evs[c[p].toNat + i] := by
  have hp : p < ps.length := by rw [dropF_length hc] at hp'; exact hp'
  have hg := dropF_get hc hp hp'
  have hi : (c[p]'(by omega)).toNat + i < ps[p].evs.length := by
    have := hi'
    rw [hg, (dropP_vars _ _ _).2.2.2] at this
    omega
  refine ⟨hp, by omega, hi, Option.some.inj ?_⟩
  rw [← List.getElem?_eq_getElem hi', hg]
  show ((ps[p].evs.drop _).map (dropEv (sentB ps c)))[i]? = _
  rw [List.getElem?_map, List.getElem?_drop, List.getElem?_eq_getElem hi]; rfl
theorem drop_len (hc : c.length = ps.length) {p : Nat} (hp : p < ps.length) : ∃ (hp' : p < (dropF ps c).length) (hpc : p < c.length), (dropF ps c)[p].evs.length = ps[p].evs.length - c[p].toNat ∧ (dropF ps c)[p].vars.length = ps[p].vars.length ∧ (dropF ps c)[p].name = ps[p].name ∧
    (dropF ps c)[p].vars.map (·.1) = ps[p].vars.map (·.1) ∧ ∀ k, stateAt (dropF ps c)[p] k = stateAt ps[p] (c[p].toNat + k) := by
  have hp' : p < (dropF ps c).length := by rw [dropF_length hc]; exact hp
  have hpc : p < c.length := by omega
  obtain ⟨h1, h2, h3, h4⟩ := dropP_vars (sentB ps c) ps[p] c[p].toNat
  refine ⟨hp', hpc, ?_⟩
  rw [dropF_get hc hp hp']
  exact ⟨h4, h2, h3, h1, fun k => stateAt_drop _ _ _ _⟩
theorem dropEv_kind {S : Int → Bool} {e : Ev} : ((dropEv S e).kind = 2 → e.kind = 2) ∧ ((dropEv S e).kind = 3 → e.kind = 3 ∧ S e.msg = false) ∧ ((dropEv S e).kind ≠ 1 → dropEv S e = e) ∧ (e.kind = 2 → dropEv S e = e) ∧ (e.kind = 3 → S e.msg = false → dropEv S e = e) := by
  unfold dropEv
  split
  · rename_i h
    exact ⟨fun h' => by simp at h', fun h' => by simp at h', fun h' => by simp at h', fun h' => by omega, fun _ h' => by rw [h.2] at h'; cases h'⟩
  · rename_i h
    refine ⟨id, fun h' => ⟨h', ?_⟩, fun _ => rfl, fun _ => rfl, fun _ _ => rfl⟩
    cases hS : S e.msg
    · rfl
    · exact absurd ⟨h', hS⟩ h
theorem recv_sends (hm : msgF ps = none) {p : Nat} (hp : p < ps.length) {i : Nat} (hi : i < ps[p].evs.length) (hk : ps[p].evs[i].kind = 3) : sendsB ps ps[p].evs[i].peer ps[p].evs[i].msg (p : Int) = true := by
  have hev := evIds_get hp hi
  have hlt : off ps p + i < (evIds ps).length := (List.getElem?_eq_some_iff.1 hev).1
  have hpz : pairF ps (off ps p + i) = 0 := by
    unfold msgF at hm
    split at hm
    · cases hm
    · rename_i hn
      rw [List.find?_eq_none] at hn
      simpa using hn _ (List.mem_range.2 hlt)
  unfold pairF at hpz
  rw [hev] at hpz
  simp only at hpz
  rw [if_neg (by omega), if_pos hk] at hpz
  split at hpz
  · cases hpz
  · split at hpz
    · cases hpz
    · rename_i hs; simpa using hs
/-- The two events of the dropped trace with a number are one. -/
theorem drop_unique (hm : msgF ps = none) (hc : c.length = ps.length) {p q i j : Nat} (hp' : p < (dropF ps c).length) (hi' : i < (dropF ps c)[p].evs.length) (hq' : q < (dropF ps c).length) (hj' : j < (dropF ps c)[q].evs.length)
    (hk : (dropF ps c)[p].evs[i].kind = 2 ∨ (dropF ps c)[p].evs[i].kind = 3) (he : (dropF ps c)[p].evs[i].kind = (dropF ps c)[q].evs[j].kind) (hmsg : (dropF ps c)[p].evs[i].msg = (dropF ps c)[q].evs[j].msg) : p = q ∧ i = j := by
  obtain ⟨hp, hpc, hi, e1⟩ := drop_ev hc hp' hi'
  obtain ⟨hq, hqc, hj, e2⟩ := drop_ev hc hq' hj'
  rw [e1] at hk he hmsg; rw [e2] at he hmsg
  obtain ⟨_, _, k1, _, _⟩ := dropEv_kind (S := sentB ps c) (e := ps[p].evs[c[p].toNat + i])
  obtain ⟨_, _, k2, _, _⟩ := dropEv_kind (S := sentB ps c) (e := ps[q].evs[c[q].toNat + j])
  have n1 : (dropEv (sentB ps c) ps[p].evs[c[p].toNat + i]).kind ≠ 1 := fun h => by rcases hk with h' | h' <;> rw [h] at h' <;> exact absurd h' (by decide)
  have n2 : (dropEv (sentB ps c) ps[q].evs[c[q].toNat + j]).kind ≠ 1 := fun h => n1 (he.trans h)
  rw [k2 n2] at he hmsg
  rw [k1 n1] at he hmsg hk
  have u1 := pair_unique hm hp hi hk
  have u2 := pair_unique hm hq hj (he ▸ hk)
  rw [he, hmsg, u2, Prod.mk.injEq] at u1
  have : q = p := by omega
  subst this
  exact ⟨rfl, by omega⟩
theorem drop_msgF (hm : msgF ps = none) (hc : c.length = ps.length) (hr : inRangeF ps c = true) : msgF (dropF ps c) = none := by
  refine pairF_zero fun p hp' i hi' => ?_
  have hev := evIds_get hp' hi'
  obtain ⟨hp, hpc, hi, e1⟩ := drop_ev hc hp' hi'
  have hfst : ∀ kind, (kind = 2 ∨ kind = 3) → (dropF ps c)[p].evs[i].kind = kind → ¬ 0 < (findIn ((evIds (dropF ps c)).take (off (dropF ps c) p + i)) kind (dropF ps c)[p].evs[i].msg).2 := fun kind hk2 hk h => by
    obtain ⟨e, hm', h1, h2⟩ := findIn_mem h
    obtain ⟨n, hn, hne⟩ := List.getElem_of_mem hm'
    rw [List.length_take] at hn
    rw [List.getElem_take] at hne
    obtain ⟨q, hq', j, hj', hnq, he⟩ := evIds_inv (List.getElem?_eq_getElem (show n < (evIds (dropF ps c)).length by omega))
    rw [hne] at he
    obtain ⟨_, rfl⟩ := Prod.mk.inj he
    obtain ⟨e2, e3⟩ := drop_unique hm hc hp' hi' hq' hj' (by omega) (by omega) h2.symm
    subst e2; subst e3
    omega
  unfold pairF
  rw [hev]
  simp only
  by_cases k2 : (dropF ps c)[p].evs[i].kind = 2
  · rw [if_pos k2, if_neg (hfst 2 (.inl rfl) k2)]
  by_cases k3 : (dropF ps c)[p].evs[i].kind = 3
  · rw [if_neg k2, if_pos k3, if_neg (hfst 3 (.inr rfl) k3), if_neg]
    have hd := dropEv_kind (S := sentB ps c) (e := ps[p].evs[c[p].toNat + i])
    rw [e1] at k3
    obtain ⟨o3, oS⟩ := hd.2.1 k3
    have oe := hd.2.2.2.2 o3 oS
    rw [e1, oe]
    have hss := recv_sends hm hp hi o3
    obtain ⟨hqc, hst⟩ := sent_iff hm hc hp hi o3
    obtain ⟨hq, j0, hj0, s1, s2, s3⟩ := recv_peer hm hp hi o3
    rw [oS, s1] at hst
    have hlt : c[ps[p].evs[c[p].toNat + i].peer.toNat] < (j0 : Int) + 1 := by
      have := hst.symm
      rw [decide_eq_false_iff_not] at this
      simpa using this
    obtain ⟨hr1, hr2⟩ := inRangeF_get hr hc hq
    have hsn : ∃ e, ps[ps[p].evs[c[p].toNat + i].peer.toNat].evs[j0] = e ∧ e.peer = p := by
      unfold sendsB at hss
      rw [List.getElem?_eq_getElem hq] at hss
      obtain ⟨e, he, h1⟩ := List.any_eq_true.1 hss
      obtain ⟨j1, hj1, rfl⟩ := List.getElem_of_mem he
      simp only [Bool.and_eq_true, decide_eq_true_iff] at h1
      have u1 := pair_unique hm hq hj1 (.inl h1.1.1)
      have u2 := pair_unique hm hq hj0 (.inl s2)
      rw [h1.1.1, h1.1.2] at u1
      rw [s2, s3, u1, Prod.mk.injEq] at u2
      have : j1 = j0 := by omega
      subst this
      exact ⟨_, rfl, h1.2⟩
    obtain ⟨e, he, hep⟩ := hsn
    obtain ⟨hq', hqc2, l1, _⟩ := drop_len hc hq
    have hjn : j0 - c[ps[p].evs[c[p].toNat + i].peer.toNat].toNat < (dropF ps c)[ps[p].evs[c[p].toNat + i].peer.toNat].evs.length := by omega
    have hsb : sendsB (dropF ps c) ps[p].evs[c[p].toNat + i].peer ps[p].evs[c[p].toNat + i].msg (p : Int) = true := by
      unfold sendsB
      rw [List.getElem?_eq_getElem hq']
      simp only
      rw [List.any_eq_true]
      refine ⟨_, List.getElem_mem hjn, ?_⟩
      obtain ⟨_, _, hx, e4⟩ := drop_ev hc hq' hjn
      rw [e4]
      have idx : c[ps[p].evs[c[p].toNat + i].peer.toNat].toNat + (j0 - c[ps[p].evs[c[p].toNat + i].peer.toNat].toNat) = j0 := by omega
      simp only [idx]
      have hd2 := dropEv_kind (S := sentB ps c) (e := ps[ps[p].evs[c[p].toNat + i].peer.toNat].evs[j0])
      rw [hd2.2.2.2.1 s2]
      simp only [Bool.and_eq_true, decide_eq_true_iff]
      exact ⟨⟨s2, s3⟩, by rw [he]; exact hep⟩
    rw [hsb]; decide
  · rw [if_neg k2, if_neg k3]
/-- The event of the trace that an event of the dropped trace was. -/
def shE (c : List Int) (x : Eid) : Eid := (x.1, x.2 + c.getD x.1.toNat 0)
theorem shE_nat {c : List Int} {p : Nat} (hpc : p < c.length) (h0 : 0 ≤ c[p]) (i : Nat) : shE c ((p : Int), (i : Int) + 1) = ((p : Int), ((c[p].toNat + i : Nat) : Int) + 1) := by
  unfold shE
  simp only [Int.toNat_natCast, List.getD_eq_getElem?_getD, List.getElem?_eq_getElem hpc, Option.getD_some]
  rw [Prod.mk.injEq]; exact ⟨rfl, by omega⟩
theorem drop_nx (hm : msgF ps = none) (hc : c.length = ps.length) (hr : inRangeF ps c = true) {x y : Eid} (hx : VEv (dropF ps c) x) (h : Nx (dropF ps c) x y) : Nx ps (shE c x) (shE c y) := by
  obtain ⟨p, hp', i, hi', rfl⟩ := hx
  obtain ⟨hp, hpc, hi, e1⟩ := drop_ev hc hp' hi'
  obtain ⟨hr1, hr2⟩ := inRangeF_get hr hc hp
  unfold Nx afterL at h
  simp only [Int.toNat_natCast, List.getElem?_eq_getElem hp', show ((i : Int) + 1 - 1).toNat = i by omega, List.getElem?_eq_getElem hi', List.mem_append] at h
  rw [shE_nat hpc hr1]
  unfold Nx afterL
  simp only [Int.toNat_natCast, List.getElem?_eq_getElem hp, show (((c[p].toNat + i : Nat) : Int) + 1 - 1).toNat = c[p].toNat + i by omega, List.getElem?_eq_getElem hi, List.mem_append]
  obtain ⟨_, _, l1, _⟩ := drop_len hc hp
  rcases h with h | h
  · split at h
    · rename_i hlt
      simp only [List.mem_singleton] at h
      subst h
      refine .inl ?_
      rw [if_pos (by omega)]
      simp only [List.mem_singleton]
      rw [show ((i : Int) + 1 + 1) = ((i + 1 : Nat) : Int) + 1 by omega, shE_nat hpc hr1, Prod.mk.injEq]
      exact ⟨rfl, by omega⟩
    · cases h
  · split at h
    · rename_i hcd
      simp only [List.mem_singleton] at h
      subst h
      obtain ⟨q, hq', j, hj', u1, u2, u3⟩ := findIn_some hcd.2
      obtain ⟨hq, hqc, hj, e2⟩ := drop_ev hc hq' hj'
      obtain ⟨hs1, hs2⟩ := inRangeF_get hr hc hq
      have d1 := dropEv_kind (S := sentB ps c) (e := ps[p].evs[c[p].toNat + i])
      have d2 := dropEv_kind (S := sentB ps c) (e := ps[q].evs[c[q].toNat + j])
      rw [e1] at hcd u1 u3
      rw [e2] at u2 u3
      have k1 := d1.1 hcd.1
      obtain ⟨k2, kS⟩ := d2.2.1 u2
      rw [d1.2.2.2.1 k1] at u1 u3 hcd
      rw [d2.2.2.2.2 k2 kS] at u3
      have hu := pair_unique hm hq hj (.inr k2)
      rw [k2, u3] at hu
      refine .inr ?_
      rw [if_pos ⟨k1, by rw [hu]; show (0 : Int) < _; omega⟩]
      simp only [List.mem_singleton]
      rw [e1, d1.2.2.2.1 k1, u1, shE_nat hqc hs1, hu]
    · cases h
theorem drop_reach (hm : msgF ps = none) (hc : c.length = ps.length) (hr : inRangeF ps c = true) {x y : Eid} (hx : VEv (dropF ps c) x) (h : Reach (dropF ps c) x y) : Reach ps (shE c x) (shE c y) := by
  induction h with
  | single h => exact .single (drop_nx hm hc hr hx h)
  | tail h1 h2 ih => exact .tail ih (drop_nx hm hc hr (Reach.valid h1 hx) h2)
theorem drop_cyc (hv : validF ps = true) (hc : c.length = ps.length) (hr : inRangeF ps c = true) : cycF (dropF ps c) = none := by
  refine cycF_none fun j y hj h => ?_
  obtain ⟨p, hp', i, hi', _, rfl⟩ := evIds_inv hj
  have h := drop_reach (valid_parts hv).2.2 hc hr ⟨p, hp', i, hi', rfl⟩ h
  obtain ⟨hp, hpc, hi, _⟩ := drop_ev hc hp' hi'
  obtain ⟨hr1, hr2⟩ := inRangeF_get hr hc hp
  rw [shE_nat hpc hr1] at h
  have h0 := valid_cyc hv
  unfold cycF at h0
  rw [Option.map_eq_none_iff, List.find?_eq_none] at h0
  exact absurd h (by simpa using h0 _ (List.mem_of_getElem? (evIds_get hp hi)))
theorem drop_valid (hv : validF ps = true) (hc : c.length = ps.length) (hr : inRangeF ps c = true) : validF (dropF ps c) = true := by
  have hl := dropF_length hc
  have hm := (valid_parts hv).2.2
  have h18 : 1 ≤ ps.length ∧ ps.length ≤ 8 := by
    have := hv
    unfold validF faultF at this
    simp only [decide_eq_true_eq] at this
    split at this
    · cases this
    · rename_i h
      simp only [inI, Bool.not_eq_true', Bool.not_eq_false, Bool.and_eq_true, decide_eq_true_eq] at h
      omega
  refine valid_of (by omega) (fun p hp' => ?_) (fun p hp' i hi' => ?_) (drop_msgF hm hc hr) (drop_cyc hv hc hr)
  · have hp : p < ps.length := by omega
    obtain ⟨_, hpc, l1, l2, l3, l4, l5⟩ := drop_len hc hp
    obtain ⟨⟨n1, n2⟩, n3, n4, n5⟩ := (procF_parts hp).1 (procF_of_valid hv hp)
    refine (procF_parts hp').2 ⟨⟨by rw [l3]; exact n1, ?_⟩, by omega, fun i hi => ?_, by omega⟩
    · rw [l3, List.any_eq_false]
      intro y hy
      obtain ⟨q, hq, rfl⟩ := List.getElem_of_mem hy
      rw [List.length_take] at hq
      have hqp : q < ps.length := by omega
      obtain ⟨hq', _, _, _, m3, _⟩ := drop_len hc hqp
      rw [List.getElem_take, m3]
      rw [List.any_eq_false] at n2
      refine n2 ps[q] (List.mem_of_getElem? (i := q) ?_)
      rw [List.getElem?_take, if_pos (by omega), List.getElem?_eq_getElem hqp]
    · have hiv : i < ps[p].vars.length := by omega
      have hg1 : ∀ j (hj : j < (dropF ps c)[p].vars.length) (hj2 : j < ps[p].vars.length), (dropF ps c)[p].vars[j].1 = ps[p].vars[j].1 := fun j hj hj2 => by
        have := congrArg (·[j]?) l4
        simp only [List.getElem?_map, List.getElem?_eq_getElem hj, List.getElem?_eq_getElem hj2, Option.map_some, Option.some.injEq] at this
        exact this
      obtain ⟨⟨v1, v2⟩, v3⟩ := (varF_parts hiv).1 (n4 i hiv)
      refine (varF_parts hi).2 ⟨⟨by rw [hg1 i hi hiv]; exact v1, ?_⟩, ?_⟩
      · rw [hg1 i hi hiv, List.any_eq_false]
        intro y hy
        obtain ⟨q, hq, rfl⟩ := List.getElem_of_mem hy
        rw [List.length_take] at hq
        rw [List.getElem_take, hg1 q (by omega) (by omega)]
        rw [List.any_eq_false] at v2
        refine v2 ps[p].vars[q] (List.mem_of_getElem? (i := q) ?_)
        rw [List.getElem?_take, if_pos (by omega), List.getElem?_eq_getElem (by omega)]
      · have hst := l5 0
        rw [Nat.add_zero] at hst
        have h0 : stateAt (dropF ps c)[p] 0 = (dropF ps c)[p].vars.map (·.2) := by simp [stateAt]
        refine state_small hv hp c[p].toNat _ ?_
        rw [← hst, h0]
        exact List.mem_map.2 ⟨_, List.getElem_mem hi, rfl⟩
  · obtain ⟨hp, hpc, hi, e1⟩ := drop_ev hc hp' hi'
    obtain ⟨_, _, l1, l2, _⟩ := drop_len hc hp
    obtain ⟨f1, f2, f3, f4⟩ := (evF_parts hp hi).1 (evF_of_valid hv hp hi)
    obtain ⟨d1, d2⟩ := dropEv_asg (sentB ps c) ps[p].evs[c[p].toNat + i]
    refine (evF_parts hp' hi').2 ⟨?_, ⟨by rw [e1, d2]; exact f2.1, by rw [e1, d2]; exact f2.2.1, ?_⟩, by rw [e1, d1]; exact f3, fun k hk => ?_⟩
    · rw [e1, hl]
      unfold dropEv
      split
      · rfl
      · exact f1
    · rw [e1, d2]
      unfold lastT
      split
      · exact f2.1
      · rename_i hi0
        obtain ⟨_, _, hi1, e2⟩ := drop_ev hc hp' (i := i - 1) (by omega)
        rw [List.getElem?_eq_getElem (show i - 1 < (dropF ps c)[p].evs.length by omega)]
        simp only
        rw [e2, (dropEv_asg _ _).2]
        have := f2.2.2
        unfold lastT at this
        rw [if_neg (by omega), show c[p].toNat + i - 1 = c[p].toNat + (i - 1) by omega, List.getElem?_eq_getElem hi1] at this
        exact this
    · rw [e1, d1] at hk
      rw [e1, d1, l2]
      exact f4 k hk
end
end Go.AL
end
section
/- Bounds of expressions, and their values: plain laws. No condition. -/
namespace Go.AL
open Go Go.RowKit
set_option maxRecDepth 4000
/-! ### The least and the greatest number of a list -/
def mn2 (a b : Int) : Int := if b < a then b else a
def mx2 (a b : Int) : Int := if a < b then b else a
def minL : List Int → Int | [] => 0 | a :: r => r.foldl mn2 a
def maxL : List Int → Int | [] => 0 | a :: r => r.foldl mx2 a
theorem mn2_le (a b : Int) : mn2 a b ≤ a ∧ mn2 a b ≤ b := by unfold mn2; split <;> omega
theorem mx2_le (a b : Int) : a ≤ mx2 a b ∧ b ≤ mx2 a b := by unfold mx2; split <;> omega
theorem minL_snoc {l : List Int} (h : l ≠ []) (y : Int) : minL (l ++ [y]) = mn2 (minL l) y := by
  cases l with
  | nil => exact absurd rfl h
  | cons a r => simp only [minL, List.cons_append, List.foldl_append, List.foldl_cons, List.foldl_nil]
theorem maxL_snoc {l : List Int} (h : l ≠ []) (y : Int) : maxL (l ++ [y]) = mx2 (maxL l) y := by
  cases l with
  | nil => exact absurd rfl h
  | cons a r => simp only [maxL, List.cons_append, List.foldl_append, List.foldl_cons, List.foldl_nil]
theorem fold_mn (r : List Int) : ∀ a, r.foldl mn2 a ≤ a ∧ ∀ y ∈ r, r.foldl mn2 a ≤ y := by
  induction r with
  | nil => intro a; exact ⟨Int.le_refl _, fun y hy => by cases hy⟩
  | cons b r ih =>
    intro a
    obtain ⟨h1, h2⟩ := ih (mn2 a b)
    have := mn2_le a b
    simp only [List.foldl_cons]
    refine ⟨by omega, fun y hy => ?_⟩
    rcases List.mem_cons.1 hy with rfl | hy
    · omega
    · exact h2 y hy
theorem fold_mx (r : List Int) : ∀ a, a ≤ r.foldl mx2 a ∧ ∀ y ∈ r, y ≤ r.foldl mx2 a := by
  induction r with
  | nil => intro a; exact ⟨Int.le_refl _, fun y hy => by cases hy⟩
  | cons b r ih =>
    intro a
    obtain ⟨h1, h2⟩ := ih (mx2 a b)
    have := mx2_le a b
    simp only [List.foldl_cons]
    refine ⟨by omega, fun y hy => ?_⟩
    rcases List.mem_cons.1 hy with rfl | hy
    · omega
    · exact h2 y hy
theorem minL_le {l : List Int} {y : Int} (h : y ∈ l) : minL l ≤ y := by
  cases l with
  | nil => cases h
  | cons a r => rcases List.mem_cons.1 h with rfl | h; exact (fold_mn r _).1; exact (fold_mn r _).2 _ h
theorem le_maxL {l : List Int} {y : Int} (h : y ∈ l) : y ≤ maxL l := by
  cases l with
  | nil => cases h
  | cons a r => rcases List.mem_cons.1 h with rfl | h; exact (fold_mx r _).1; exact (fold_mx r _).2 _ h
theorem minL_take {l : List Int} {k : Nat} (h0 : 0 < k) (hk : k < l.length) : minL (l.take (k + 1)) = mn2 (minL (l.take k)) l[k] := by
  rw [List.take_succ_eq_append_getElem hk, minL_snoc]
  intro e; rw [List.take_eq_nil_iff] at e; rcases e with e | e
  · omega
  · subst e; simp at hk
theorem maxL_take {l : List Int} {k : Nat} (h0 : 0 < k) (hk : k < l.length) : maxL (l.take (k + 1)) = mx2 (maxL (l.take k)) l[k] := by
  rw [List.take_succ_eq_append_getElem hk, maxL_snoc]
  intro e; rw [List.take_eq_nil_iff] at e; rcases e with e | e
  · omega
  · subst e; simp at hk
/-! ### The values of a variable -/
def valsF (x : Pr) (v : Nat) : List Int := (List.range (x.evs.length + 1)).map fun k => (stateAt x k).getD v 0
theorem valsF_length (x : Pr) (v : Nat) : (valsF x v).length = x.evs.length + 1 := by unfold valsF; simp
theorem valsF_get (x : Pr) (v : Nat) {k : Nat} (hk : k < (valsF x v).length) : (valsF x v)[k] = (stateAt x k).getD v 0 := by unfold valsF; simp
theorem valsF_mem (x : Pr) (v : Nat) {k : Nat} (hk : k ≤ x.evs.length) : (stateAt x k).getD v 0 ∈ valsF x v := by
  unfold valsF; rw [List.mem_map]; exact ⟨k, List.mem_range.2 (by omega), rfl⟩
def varLo (ps : List Pr) (p : Int) (s : ByteArray) : Int := match ps[p.toNat]? with | some x => minL (valsF x (varIx x.vars s).toNat) | none => 0
def varHi (ps : List Pr) (p : Int) (s : ByteArray) : Int := match ps[p.toNat]? with | some x => maxL (valsF x (varIx x.vars s).toNat) | none => 0
def evN (ps : List Pr) (p : Int) : Int := match ps[p.toNat]? with | some x => x.evs.length | none => 0
def sentTo (q : Int) (e : Ev) : Bool := decide (e.kind = 2) && decide (e.peer = q)
def msgN (ps : List Pr) (p q : Int) : Int := match ps[p.toNat]? with | some x => (x.evs.countP (sentTo q) : Int) | none => 0
/-! ### Bounds -/
def tooB (a b : Int) : Bool := decide (a < -1125899906842624) || decide (1125899906842624 < b)
def absF (a : Int) : Int := mx2 a (-a)
def timesF (a b : Int) : Int := if a = 0 ∨ b = 0 then 0 else if 1125899906842624 / absF b < absF a then (if (decide (a < 0) != decide (b < 0)) = true then -1125899906842625 else 1125899906842625) else a * b
abbrev Bd := Int × Int × Bool
def bdL (ps : List Pr) (k n p q : Int) (s : ByteArray) : Int × Int := if k = 1 then (n, n) else if k = 3 then (0, evN ps p) else if k = 4 then (0, msgN ps p q) else (varLo ps p s, varHi ps p s)
def bd2 (k : Int) (a b : Bd) : Int × Int := if k = 5 then (-a.2.1, -a.1) else if k = 6 then (a.1 + b.1, a.2.1 + b.2.1) else if k = 7 then (a.1 - b.2.1, a.2.1 - b.1) else
  (minL [timesF a.1 b.1, timesF a.1 b.2.1, timesF a.2.1 b.1, timesF a.2.1 b.2.1], maxL [timesF a.1 b.1, timesF a.1 b.2.1, timesF a.2.1 b.1, timesF a.2.1 b.2.1])
def bdG (i : Int × Int) : Bd := (i.1, i.2, !tooB i.1 i.2)
def bdN (ps : List Pr) (k n p q : Int) (s : ByteArray) : List Bd → Bd
  | [] => bdG (bdL ps k n p q s)
  | [a] => if a.2.2 = true then bdG (bd2 k a a) else (0, 0, false)
  | a :: b :: _ => if a.2.2 = true ∧ b.2.2 = true then bdG (bd2 k a b) else (0, 0, false)
mutual
def intF (ps : List Pr) : Pd → Bd
  | .mk k n p q s l => bdN ps k n p q s (intL ps l)
def intL (ps : List Pr) : List Pd → List Bd
  | [] => []
  | x :: r => intF ps x :: intL ps r
end
theorem intL_map (ps : List Pr) : ∀ l, intL ps l = l.map (intF ps)
  | [] => by rw [intL]; rfl
  | x :: r => by rw [intL, intL_map ps r]; rfl
theorem intF_mk (ps : List Pr) (k n p q : Int) (s : ByteArray) (l : List Pd) : intF ps (.mk k n p q s l) = bdN ps k n p q s (l.map (intF ps)) := by rw [intF, intL_map]
mutual
def fitB (ps : List Pr) : Pd → Bool
  | .mk k n p q s l => if k ≤ 8 then (intF ps (.mk k n p q s l)).2.2 else fitL ps l
def fitL (ps : List Pr) : List Pd → Bool
  | [] => true
  | x :: r => fitB ps x && fitL ps r
end
theorem fitL_all (ps : List Pr) : ∀ l, fitL ps l = l.all (fitB ps)
  | [] => by rw [fitL]; rfl
  | x :: r => by rw [fitL, fitL_all ps r]; rfl
theorem fitB_mk (ps : List Pr) (k n p q : Int) (s : ByteArray) (l : List Pd) : fitB ps (.mk k n p q s l) = if k ≤ 8 then (intF ps (.mk k n p q s l)).2.2 else l.all (fitB ps) := by rw [fitB, fitL_all]
/-- What is needed of a tree that has bounds. -/
def okT (ps : List Pr) (t : Pd) : Bool := allB locB t && allB (resB ps) t && allB typB t
theorem allB_sub {f : Pd → Bool} {k n p q : Int} {s : ByteArray} {l : List Pd} (h : allB f (.mk k n p q s l) = true) : f (.mk k n p q s l) = true ∧ ∀ x ∈ l, allB f x = true := by
  rw [allB_mk, Bool.and_eq_true, List.all_eq_true] at h; exact h
theorem okT_sub {ps : List Pr} {k n p q : Int} {s : ByteArray} {l : List Pd} (h : okT ps (.mk k n p q s l) = true) :
    locB (.mk k n p q s l) = true ∧ resB ps (.mk k n p q s l) = true ∧ typB (.mk k n p q s l) = true ∧ ∀ x ∈ l, okT ps x = true ∧ resF x.kind = needF k := by
  unfold okT at *
  simp only [Bool.and_eq_true] at h
  obtain ⟨⟨h1, h2⟩, h3⟩ := h
  obtain ⟨a1, b1⟩ := allB_sub h1
  obtain ⟨a2, b2⟩ := allB_sub h2
  obtain ⟨a3, b3⟩ := allB_sub h3
  refine ⟨a1, a2, a3, fun x hx => ⟨by simp only [Bool.and_eq_true]; exact ⟨⟨b1 x hx, b2 x hx⟩, b3 x hx⟩, ?_⟩⟩
  unfold typB at a3
  have := List.any_eq_false.1 (Bool.not_eq_true' _ ▸ a3 : (l.any fun x => tyNe k x.kind) = false) x hx
  unfold tyNe at this
  simpa using this
theorem loc_len {k n p q : Int} {s : ByteArray} {l : List Pd} (h : locB (.mk k n p q s l) = true) : partsF k = l.length ∧ numB k n = true := by
  unfold locB at h
  simp only [Bool.and_eq_true, decide_eq_true_eq] at h
  exact h.1
/-! ### Values -/
structure Obs where
  var : Int → ByteArray → Int
  cnt : Int → Int
  chn : Int → Int → Int
def valN (o : Obs) (k n p q : Int) (s : ByteArray) : List Int → Int
  | [] => if k = 1 then n else if k = 2 then o.var p s else if k = 3 then o.cnt p else o.chn p q
  | [a] => -a
  | a :: b :: _ => if k = 6 then a + b else if k = 7 then a - b else a * b
mutual
def valF (o : Obs) : Pd → Int
  | .mk k n p q s l => valN o k n p q s (valL o l)
def valL (o : Obs) : List Pd → List Int
  | [] => []
  | x :: r => valF o x :: valL o r
end
theorem valL_map (o : Obs) : ∀ l, valL o l = l.map (valF o)
  | [] => by rw [valL]; rfl
  | x :: r => by rw [valL, valL_map o r]; rfl
theorem valF_mk (o : Obs) (k n p q : Int) (s : ByteArray) (l : List Pd) : valF o (.mk k n p q s l) = valN o k n p q s (l.map (valF o)) := by rw [valF, valL_map]
def obsB (ps : List Pr) (o : Obs) : Pd → Prop
  | .mk k _ p q s _ => (k = 2 → varLo ps p s ≤ o.var p s ∧ o.var p s ≤ varHi ps p s) ∧ (k = 3 → 0 ≤ o.cnt p ∧ o.cnt p ≤ evN ps p) ∧ (k = 4 → 0 ≤ o.chn p q ∧ o.chn p q ≤ msgN ps p q)
mutual
def AllP (f : Pd → Prop) : Pd → Prop
  | .mk k n p q s l => f (.mk k n p q s l) ∧ AllPL f l
def AllPL (f : Pd → Prop) : List Pd → Prop
  | [] => True
  | x :: r => AllP f x ∧ AllPL f r
end
theorem AllPL_mem {f : Pd → Prop} : ∀ {l : List Pd}, AllPL f l → ∀ x ∈ l, AllP f x
  | x :: r, h, y, hy => by
    rw [AllPL] at h
    rcases List.mem_cons.1 hy with rfl | hy
    · exact h.1
    · exact AllPL_mem h.2 y hy
theorem AllP_sub {f : Pd → Prop} {k n p q : Int} {s : ByteArray} {l : List Pd} (h : AllP f (.mk k n p q s l)) : f (.mk k n p q s l) ∧ ∀ x ∈ l, AllP f x := by
  rw [AllP] at h; exact ⟨h.1, AllPL_mem h.2⟩
theorem AllPL_of {f : Pd → Prop} : ∀ {l : List Pd}, (∀ x ∈ l, AllP f x) → AllPL f l
  | [], _ => by rw [AllPL]; trivial
  | x :: r, h => by rw [AllPL]; exact ⟨h x List.mem_cons_self, AllPL_of fun y hy => h y (List.mem_cons_of_mem _ hy)⟩
theorem AllP_mk {f : Pd → Prop} {k n p q : Int} {s : ByteArray} {l : List Pd} (h : f (.mk k n p q s l)) (hs : ∀ x ∈ l, AllP f x) : AllP f (.mk k n p q s l) := by
  rw [AllP]; exact ⟨h, AllPL_of hs⟩
theorem AllP_mono {f g : Pd → Prop} (h : ∀ x, f x → g x) (t : Pd) : AllP f t → AllP g t := by
  induction t using Pd.ind with
  | _ k n p q s l ih => intro ht; obtain ⟨a, b⟩ := AllP_sub ht; exact AllP_mk (h _ a) fun x hx => ih x hx (b x hx)
theorem AllP_all (f : Pd → Prop) (h : ∀ x, f x) (t : Pd) : AllP f t := by
  induction t using Pd.ind with
  | _ k n p q s l ih => exact AllP_mk (h _) ih
theorem AllP_of_allB {f : Pd → Bool} {g : Pd → Prop} (h : ∀ x, f x = true → g x) (t : Pd) : allB f t = true → AllP g t := by
  induction t using Pd.ind with
  | _ k n p q s l ih => intro ht; obtain ⟨a, b⟩ := allB_sub ht; exact AllP_mk (h _ a) fun x hx => ih x hx (b x hx)
theorem tooB_false {a b : Int} (h : (!tooB a b) = true) : -1125899906842624 ≤ a ∧ b ≤ 1125899906842624 := by
  unfold tooB at h; simp at h; omega
theorem absF_eq (a : Int) : absF a = a.natAbs := by unfold absF mx2; split <;> omega
theorem timesF_ok {a b : Int} (h1 : -1125899906842624 ≤ timesF a b) (h2 : timesF a b ≤ 1125899906842624) : timesF a b = a * b := by
  unfold timesF at *
  split
  · rename_i h; rcases h with rfl | rfl <;> simp
  · rename_i h
    rw [if_neg h] at h1 h2
    split
    · rename_i hh; rw [if_pos hh] at h1 h2
      by_cases hx : (decide (a < 0) != decide (b < 0)) = true
      · rw [if_pos hx] at h1; omega
      · rw [if_neg hx] at h2; omega
    · rfl
/-- A product lies between those of the ends. -/
theorem mul_ends {a b y : Int} {x : Int} (hx1 : a ≤ x) (hx2 : x ≤ b) : (a * y ≤ x * y ∧ x * y ≤ b * y) ∨ (b * y ≤ x * y ∧ x * y ≤ a * y) := by
  rcases Int.le_total 0 y with h | h
  · exact .inl ⟨Int.mul_le_mul_of_nonneg_right hx1 h, Int.mul_le_mul_of_nonneg_right hx2 h⟩
  · exact .inr ⟨Int.mul_le_mul_of_nonpos_right hx2 h, Int.mul_le_mul_of_nonpos_right hx1 h⟩
theorem mul_ends' {a b x y : Int} (hx1 : a ≤ x) (hx2 : x ≤ b) : (y * a ≤ y * x ∧ y * x ≤ y * b) ∨ (y * b ≤ y * x ∧ y * x ≤ y * a) := by
  rw [Int.mul_comm y a, Int.mul_comm y b, Int.mul_comm y x]; exact mul_ends hx1 hx2
theorem mul_hull {a b c d x y m M : Int} (hx1 : a ≤ x) (hx2 : x ≤ b) (hy1 : c ≤ y) (hy2 : y ≤ d) (h1 : m ≤ a * c ∧ a * c ≤ M) (h2 : m ≤ a * d ∧ a * d ≤ M) (h3 : m ≤ b * c ∧ b * c ≤ M) (h4 : m ≤ b * d ∧ b * d ≤ M) :
    m ≤ x * y ∧ x * y ≤ M := by
  have e1 := mul_ends (y := y) hx1 hx2
  have e2 := mul_ends' (y := a) hy1 hy2
  have e3 := mul_ends' (y := b) hy1 hy2
  generalize x * y = u at *
  generalize a * y = u1 at *
  generalize b * y = u2 at *
  generalize a * c = v1 at *
  generalize a * d = v2 at *
  generalize b * c = v3 at *
  generalize b * d = v4 at *
  omega
theorem hull4 (a b c d : Int) : (minL [a, b, c, d] ≤ a ∧ a ≤ maxL [a, b, c, d]) ∧ (minL [a, b, c, d] ≤ b ∧ b ≤ maxL [a, b, c, d]) ∧ (minL [a, b, c, d] ≤ c ∧ c ≤ maxL [a, b, c, d]) ∧ (minL [a, b, c, d] ≤ d ∧ d ≤ maxL [a, b, c, d]) :=
  ⟨⟨minL_le (by simp), le_maxL (by simp)⟩, ⟨minL_le (by simp), le_maxL (by simp)⟩, ⟨minL_le (by simp), le_maxL (by simp)⟩, ⟨minL_le (by simp), le_maxL (by simp)⟩⟩
theorem parts_cases (k : Int) : (partsF k = 0 ∧ ((1 ≤ k ∧ k ≤ 4) ∨ k = 13 ∨ k = 14)) ∨ (partsF k = 1 ∧ (k = 5 ∨ k = 15 ∨ (18 ≤ k ∧ k ≤ 21))) ∨ (partsF k = 2 ∧ ((6 ≤ k ∧ k ≤ 12) ∨ k = 16 ∨ k = 17)) ∨ partsF k = -1 := by
  unfold partsF
  split
  · exact .inl ⟨rfl, by omega⟩
  · split
    · exact .inr (.inl ⟨rfl, by omega⟩)
    · split
      · exact .inr (.inr (.inl ⟨rfl, by omega⟩))
      · exact .inr (.inr (.inr rfl))
theorem kind_of (t : Pd) : ∃ k n p q s l, t = Pd.mk k n p q s l ∧ t.kind = k := by obtain ⟨k, n, p, q, s, l⟩ := t; exact ⟨k, n, p, q, s, l, rfl, rfl⟩
theorem resF_le {k : Int} (h : resF k = 1) : k ≤ 8 := by unfold resF at h; split at h <;> omega
theorem child_le {ps : List Pr} {k n p q : Int} {s : ByteArray} {l : List Pd} (h : okT ps (.mk k n p q s l) = true) (hk : k ≤ 12) : ∀ x ∈ l, okT ps x = true ∧ x.kind ≤ 8 := by
  intro x hx
  obtain ⟨h1, h2⟩ := (okT_sub h).2.2.2 x hx
  refine ⟨h1, resF_le ?_⟩
  rw [h2]; unfold needF; rw [if_pos hk]
theorem len0 {α : Type} {l : List α} (h : l.length = 0) : l = [] := List.length_eq_zero_iff.1 h
theorem len1 {α : Type} {l : List α} (h : l.length = 1) : ∃ a, l = [a] := List.length_eq_one_iff.1 h
theorem len2 {α : Type} {l : List α} (h : l.length = 2) : ∃ a b, l = [a, b] := by
  match l, h with
  | [a, b], _ => exact ⟨a, b, rfl⟩
/-- The value of an expression lies between its bounds. -/
theorem valF_bounds (ps : List Pr) (o : Obs) (t : Pd) : okT ps t = true → t.kind ≤ 8 → AllP (obsB ps o) t → (intF ps t).2.2 = true →
    (intF ps t).1 ≤ valF o t ∧ valF o t ≤ (intF ps t).2.1 ∧ -1125899906842624 ≤ (intF ps t).1 ∧ (intF ps t).2.1 ≤ 1125899906842624 := by
  induction t using Pd.ind with
  | _ k n p q s l ih =>
  intro ht hk ho hi
  obtain ⟨h1, h2, h3, h4⟩ := okT_sub ht
  obtain ⟨hpl, hnu⟩ := loc_len h1
  obtain ⟨o1, o2⟩ := AllP_sub ho
  have hch := child_le ht (show k ≤ 12 by simp only [Pd.kind] at hk; omega)
  simp only [Pd.kind] at hk
  rw [intF_mk] at *
  rw [valF_mk]
  rcases parts_cases k with ⟨e, hc⟩ | ⟨e, hc⟩ | ⟨e, hc⟩ | e
  · obtain rfl := len0 (l := l) (by omega)
    simp only [List.map_nil, bdN, bdG, valN] at *
    obtain ⟨b1, b2⟩ := tooB_false hi
    obtain ⟨v2, v3, v4⟩ := o1
    have hk4 : k = 1 ∨ k = 2 ∨ k = 3 ∨ k = 4 := by omega
    refine ⟨?_, ?_, b1, b2⟩
    · rcases hk4 with rfl | rfl | rfl | rfl
      · simp [bdL]
      · have := (v2 rfl).1; simpa [bdL] using this
      · have := (v3 rfl).1; simpa [bdL] using this
      · have := (v4 rfl).1; simpa [bdL] using this
    · rcases hk4 with rfl | rfl | rfl | rfl
      · simp [bdL]
      · have := (v2 rfl).2; simpa [bdL] using this
      · have := (v3 rfl).2; simpa [bdL] using this
      · have := (v4 rfl).2; simpa [bdL] using this
  · obtain ⟨a, rfl⟩ := len1 (l := l) (by omega)
    simp only [List.map_cons, List.map_nil, bdN, valN] at *
    split at hi
    · rename_i ha
      rw [if_pos ha]
      obtain ⟨c1, c2⟩ := hch a (by simp)
      obtain ⟨d1, d2, d3, d4⟩ := ih a (by simp) c1 c2 (o2 a (by simp)) ha
      have k5 : k = 5 := by omega
      simp only [bdG, bd2, if_pos k5] at *
      omega
    · cases hi
  · obtain ⟨a, b, rfl⟩ := len2 (l := l) (by omega)
    simp only [List.map_cons, List.map_nil, bdN, valN] at *
    split at hi
    · rename_i hab
      obtain ⟨ha, hb⟩ := hab
      rw [if_pos ⟨ha, hb⟩]
      obtain ⟨c1, c2⟩ := hch a (by simp)
      obtain ⟨d1, d2, d3, d4⟩ := ih a (by simp) c1 c2 (o2 a (by simp)) ha
      obtain ⟨c3, c4⟩ := hch b (by simp)
      obtain ⟨f1, f2, f3, f4⟩ := ih b (by simp) c3 c4 (o2 b (by simp)) hb
      have hbd := tooB_false hi
      generalize intF ps a = A at *
      generalize intF ps b = B at *
      obtain ⟨a1, a2, a3⟩ := A
      obtain ⟨b1, b2, b3⟩ := B
      generalize valF o a = x at *
      generalize valF o b = y at *
      simp only at *
      have k5 : ¬ k = 5 := by omega
      by_cases k6 : k = 6
      · simp only [bdG, bd2, if_neg k5, if_pos k6] at *; omega
      by_cases k7 : k = 7
      · simp only [bdG, bd2, if_neg k5, if_neg k6, if_pos k7] at *; omega
      simp only [bdG, bd2, if_neg k5, if_neg k6, if_neg k7] at *
      obtain ⟨g1, g2, g3, g4⟩ := hull4 (timesF a1 b1) (timesF a1 b2) (timesF a2 b1) (timesF a2 b2)
      have t1 := timesF_ok (a := a1) (b := b1) (by omega) (by omega)
      have t2 := timesF_ok (a := a1) (b := b2) (by omega) (by omega)
      have t3 := timesF_ok (a := a2) (b := b1) (by omega) (by omega)
      have t4 := timesF_ok (a := a2) (b := b2) (by omega) (by omega)
      rw [t1, t2, t3, t4] at hbd ⊢
      obtain ⟨g1, g2, g3, g4⟩ := hull4 (a1 * b1) (a1 * b2) (a2 * b1) (a2 * b2)
      obtain ⟨r1, r2⟩ := mul_hull d1 d2 f1 f2 g1 g2 g3 g4
      exact ⟨r1, r2, hbd.1, hbd.2⟩
    · cases hi
  · omega
end Go.AL
end
section
/- The truth of predicates, which trees are checked, and which are local: plain laws. No condition. -/
namespace Go.AL
open Go Go.RowKit
set_option maxRecDepth 4000
def truN (k : Int) (v : List Int) (b : List Bool) : Bool :=
  if k = 9 then decide (v.getD 0 0 = v.getD 1 0) else if k = 10 then !decide (v.getD 0 0 = v.getD 1 0) else if k = 11 then decide (v.getD 0 0 < v.getD 1 0) else if k = 12 then decide (v.getD 0 0 ≤ v.getD 1 0) else
  if k = 13 then true else if k = 14 then false else if k = 15 then !b.getD 0 false else if k = 16 then b.getD 0 false && b.getD 1 false else b.getD 0 false || b.getD 1 false
mutual
def truF (o : Obs) : Pd → Bool
  | .mk k _ _ _ _ l => truN k (valL o l) (truL o l)
def truL (o : Obs) : List Pd → List Bool
  | [] => []
  | x :: r => truF o x :: truL o r
end
theorem truL_map (o : Obs) : ∀ l, truL o l = l.map (truF o)
  | [] => by rw [truL]; rfl
  | x :: r => by rw [truL, truL_map o r]; rfl
theorem truF_mk (o : Obs) (k n p q : Int) (s : ByteArray) (l : List Pd) : truF o (.mk k n p q s l) = truN k (l.map (valF o)) (l.map (truF o)) := by rw [truF, truL_map, valL_map]
/-! ### What depends on what -/
/-- Two observers agree on a node. -/
def agrB (o o' : Obs) : Pd → Prop
  | .mk k _ p q s _ => (k = 2 → o.var p s = o'.var p s) ∧ (k = 3 → o.cnt p = o'.cnt p) ∧ (k = 4 → o.chn p q = o'.chn p q)
theorem valF_congr {ps : List Pr} {o o' : Obs} (t : Pd) : okT ps t = true → t.kind ≤ 8 → AllP (agrB o o') t → valF o t = valF o' t := by
  induction t using Pd.ind with
  | _ k n p q s l ih =>
  intro ht hk ha
  obtain ⟨⟨a2, a3, a4⟩, hs⟩ := AllP_sub ha
  have hch := child_le ht (show k ≤ 12 by simp only [Pd.kind] at hk; omega)
  obtain ⟨h1, _⟩ := okT_sub ht
  obtain ⟨hpl, _⟩ := loc_len h1
  rw [valF_mk, valF_mk]
  have e : l.map (valF o) = l.map (valF o') := List.map_congr_left fun x hx => ih x hx (hch x hx).1 (hch x hx).2 (hs x hx)
  rw [e]
  cases l with
  | nil =>
    simp only [Pd.kind] at hk
    simp only [List.map_nil, valN]
    have : 1 ≤ k ∧ k ≤ 4 := by rcases parts_cases k with ⟨_, hc⟩ | ⟨e, hc⟩ | ⟨e, hc⟩ | e <;> simp at hpl <;> omega
    by_cases k1 : k = 1
    · rw [if_pos k1, if_pos k1]
    by_cases k2 : k = 2
    · rw [if_neg k1, if_pos k2, if_neg k1, if_pos k2, a2 k2]
    by_cases k3 : k = 3
    · rw [if_neg k1, if_neg k2, if_pos k3, if_neg k1, if_neg k2, if_pos k3, a3 k3]
    · rw [if_neg k1, if_neg k2, if_neg k3, if_neg k1, if_neg k2, if_neg k3, a4 (by omega)]
  | cons a r => cases r <;> rfl
theorem child_bool {ps : List Pr} {k n p q : Int} {s : ByteArray} {l : List Pd} (h : okT ps (.mk k n p q s l) = true) (hk : 13 ≤ k) : ∀ x ∈ l, okT ps x = true ∧ 9 ≤ x.kind := by
  intro x hx
  obtain ⟨h1, h2⟩ := (okT_sub h).2.2.2 x hx
  refine ⟨h1, ?_⟩
  unfold needF at h2
  rw [if_neg (by omega)] at h2
  unfold resF at h2
  split at h2 <;> omega
/-- Temporal nodes. -/
def tempB : Pd → Bool | .mk k _ _ _ _ _ => decide (18 ≤ k ∧ k ≤ 21)
def ntmB (x : Pd) : Bool := !tempB x
theorem truF_congr {ps : List Pr} {o o' : Obs} (t : Pd) : okT ps t = true → 9 ≤ t.kind → AllP (agrB o o') t → truF o t = truF o' t := by
  induction t using Pd.ind with
  | _ k n p q s l ih =>
  intro ht hk ha
  obtain ⟨_, hs⟩ := AllP_sub ha
  simp only [Pd.kind] at hk
  rw [truF_mk, truF_mk]
  by_cases h12 : k ≤ 12
  · have hch := child_le ht h12
    have e : l.map (valF o) = l.map (valF o') := List.map_congr_left fun x hx => valF_congr x (hch x hx).1 (hch x hx).2 (hs x hx)
    rw [e]
    unfold truN
    by_cases k1 : k = 9
    · rw [if_pos k1, if_pos k1]
    by_cases k2 : k = 10
    · rw [if_neg k1, if_pos k2, if_neg k1, if_pos k2]
    by_cases k3 : k = 11
    · rw [if_neg k1, if_neg k2, if_pos k3, if_neg k1, if_neg k2, if_pos k3]
    · have k4 : k = 12 := by omega
      rw [if_neg k1, if_neg k2, if_neg k3, if_pos k4, if_neg k1, if_neg k2, if_neg k3, if_pos k4]
  · have hch := child_bool ht (by omega)
    have e : l.map (truF o) = l.map (truF o') := List.map_congr_left fun x hx => ih x hx (hch x hx).1 (hch x hx).2 (hs x hx)
    rw [e]
    unfold truN
    rw [if_neg (show ¬ k = 9 by omega), if_neg (show ¬ k = 10 by omega), if_neg (show ¬ k = 11 by omega), if_neg (show ¬ k = 12 by omega), if_neg (show ¬ k = 9 by omega), if_neg (show ¬ k = 10 by omega), if_neg (show ¬ k = 11 by omega), if_neg (show ¬ k = 12 by omega)]
/-! ### Faults of trees -/
noncomputable def checkF (ps : List Pr) (t : Pd) : Int := if (validF ps && formedB t) = false then 1 else if allB (resB ps) t = false then 13 else if typedB t = false then 14 else if fitB ps t = false then 9 else 0
theorem checkF_zero {ps : List Pr} {t : Pd} (h : checkF ps t = 0) : validF ps = true ∧ formedB t = true ∧ okT ps t = true ∧ fitB ps t = true := by
  unfold checkF at h
  split at h
  · cases h
  · rename_i h1
    split at h
    · cases h
    · rename_i h2
      split at h
      · cases h
      · rename_i h3
        split at h
        · cases h
        · rename_i h4
          have h1 : (validF ps && formedB t) = true := by simpa using h1
          rw [Bool.and_eq_true] at h1
          refine ⟨h1.1, h1.2, ?_, by simpa using h4⟩
          unfold okT
          have h5 := h1.2
          unfold formedB at h5
          simp only [Bool.and_eq_true] at h5 ⊢
          exact ⟨⟨h5.2, by simpa using h2⟩, by unfold typedB at h3; simpa using h3⟩
/-- A node that is local to a process. -/
def lclB (pr : Int) : Pd → Bool
  | .mk k _ p _ _ _ => if k = 4 ∨ (18 ≤ k ∧ k ≤ 21) then false else if k = 2 ∨ k = 3 then decide (p = pr) else true
noncomputable def lclF (ps : List Pr) (pr k : Int) (t : Pd) : Int :=
  if checkF ps t ≠ 0 then checkF ps t else if ¬ (0 ≤ pr ∧ pr < ps.length ∧ 0 ≤ k ∧ k ≤ evN ps pr) then 2 else if t.kind ≤ 8 then 14 else if allB (lclB pr) t = false then 15 else 0
/-- What is seen at a cut, and in a state. -/
def cutO (ps : List Pr) (c : List Int) (ch : Int → Int → Int) : Obs := ⟨fun p s => match ps[p.toNat]? with | some x => (stateAt x (c.getD p.toNat 0).toNat).getD (varIx x.vars s).toNat 0 | none => 0, fun p => c.getD p.toNat 0, ch⟩
def stC (n p : Nat) (k : Int) : List Int := (List.replicate n 0).set p k
def stO (ps : List Pr) (p : Nat) (k : Int) : Obs := cutO ps (stC ps.length p k) fun _ _ => 0
def lclT (ps : List Pr) (p : Nat) (t : Pd) (k : Int) : Bool := truF (stO ps p k) t
def truthsF (ps : List Pr) (p : Nat) (t : Pd) : List Bool := (List.range ((evN ps p).toNat + 1)).map fun (k : Nat) => lclT ps p t k
end Go.AL
end
section
/- Bounds of expressions: the program's and the reference's. No condition. -/
namespace Go.AL
open Go Go.RowKit
set_option maxRecDepth 4000
theorem intF_le (ps : List Pr) (t : Pd) : (intF ps t).1 ≤ (intF ps t).2.1 := by
  induction t using Pd.ind with
  | _ k n p q s l ih =>
  rw [intF_mk]
  have hv : ∀ (v : Nat) (x : Pr), minL (valsF x v) ≤ maxL (valsF x v) := fun v x => by
    have h := valsF_mem x v (Nat.zero_le x.evs.length)
    have := minL_le h; have := le_maxL h; omega
  have h4 : ∀ a b c d : Int, minL [a, b, c, d] ≤ maxL [a, b, c, d] := fun a b c d => by have := (hull4 a b c d).1; omega
  have h2 : ∀ a b : Bd, a.1 ≤ a.2.1 → b.1 ≤ b.2.1 → (bd2 k a b).1 ≤ (bd2 k a b).2 := fun a b ha hb => by
    unfold bd2
    split
    · simp only; omega
    · split
      · simp only; omega
      · split
        · simp only; omega
        · exact h4 _ _ _ _
  match l, ih with
  | [], _ =>
    simp only [List.map_nil, bdN, bdG]
    unfold bdL
    split
    · exact Int.le_refl _
    · split
      · simp only [evN]; split <;> omega
      · split
        · simp only [msgN]; split <;> omega
        · simp only [varLo, varHi]; split
          · exact hv _ _
          · exact Int.le_refl _
  | [a], ih =>
    simp only [List.map_cons, List.map_nil, bdN]
    split
    · exact h2 _ _ (ih a (by simp)) (ih a (by simp))
    · exact Int.le_refl _
  | a :: b :: r, ih =>
    simp only [List.map_cons, bdN]
    split
    · exact h2 _ _ (ih a (by simp)) (ih b (by simp))
    · exact Int.le_refl _
theorem intF_ok (ps : List Pr) (t : Pd) (h : (intF ps t).2.2 = true) : (-1125899906842624 ≤ (intF ps t).1 ∧ (intF ps t).1 ≤ 1125899906842624) ∧ -1125899906842624 ≤ (intF ps t).2.1 ∧ (intF ps t).2.1 ≤ 1125899906842624 := by
  have hle := intF_le ps t
  obtain ⟨k, n, p, q, s, l⟩ := t
  rw [intF_mk] at *
  have hg : ∀ i : Int × Int, (bdG i).2.2 = true → -1125899906842624 ≤ (bdG i).1 ∧ (bdG i).2.1 ≤ 1125899906842624 := fun i hi => tooB_false hi
  match l with
  | [] => have := hg _ h; simp only [List.map_nil, bdN] at *; omega
  | [a] =>
    simp only [List.map_cons, List.map_nil, bdN] at *
    split at h
    · rename_i e; rw [if_pos e] at *; have := hg _ h; omega
    · cases h
  | a :: b :: r =>
    simp only [List.map_cons, bdN] at *
    split at h
    · rename_i e; rw [if_pos e] at *; have := hg _ h; omega
    · cases h
def aIv (a b : Int) : AV := .agg [ai a, ai b]
def aBd (x : Bd) : AV := .tup [aIv x.1 x.2.1, ab x.2.2]
/-! ### Products -/
theorem quo_eq {a b : Int} (ha : 0 ≤ a) (ha' : a ≤ 1125899906842624) (hb : 0 < b) : IntKind.i64.wrap (a.tdiv b) = a / b := by
  rw [Int.tdiv_eq_ediv_of_nonneg ha]
  have h1 : 0 ≤ a / b := Int.ediv_nonneg ha (Int.le_of_lt hb)
  have h2 : a / b ≤ a := Int.ediv_le_self b ha
  exact wrap_i64 (by unfold I64; omega)
theorem mul_small {a b : Int} (hb : b ≠ 0) (h : ¬ 1125899906842624 / absF b < absF a) : -1125899906842624 ≤ a * b ∧ a * b ≤ 1125899906842624 := by
  rw [absF_eq, absF_eq] at h
  have hb' : (0 : Int) < (b.natAbs : Int) := by omega
  have h1 : (a.natAbs : Int) * (b.natAbs : Int) ≤ 1125899906842624 := (Int.le_ediv_iff_mul_le hb').1 (by omega)
  have h2 : ((a * b).natAbs : Int) = (a.natAbs : Int) * (b.natAbs : Int) := by rw [Int.natAbs_mul]; rfl
  omega
theorem mulW_eq {a b : Int} (h : I64 (a * b)) : mulW a b = a * b := wrap_i64 h
theorem predtype_abs (a : Int) (ha : -1125899906842625 ≤ a ∧ a ≤ 1125899906842625) : PC Go.Proofs.Tryz.prog 221 [ai a] (ai (absF a)) := by
  have hsp : absF a = if a < -a then -a else a := rfl
  generalize absF a = x at *
  refine PC.enter 7 [.tmp 2] [] Go.Proofs.Tryz.func221 rfl rfl rfl rfl rfl (by simp) (AWp.of ?_); simp only [go_sem]
  repeat (first | ((with_reducible refine AWp.ofC ?_ ?_); (focus exact rfl); simp only [go_sem]) | ((with_reducible refine an ?_ ?_); focus exact Au))
  refine ret_eq ?_; simp only [go_sem]
  rw [hsp]
theorem predtype_product (a b : Int) (ha : -1125899906842625 ≤ a ∧ a ≤ 1125899906842625) (hb : -1125899906842625 ≤ b ∧ b ≤ 1125899906842625) : PC Go.Proofs.Tryz.prog 200 [ai a, ai b] (ai (timesF a b)) := by
  have h1 := predtype_abs a ha
  have h2 := predtype_abs b hb
  have hsp : timesF a b = if a = 0 ∨ b = 0 then 0 else if 1125899906842624 / absF b < absF a then (if (decide (a < 0) != decide (b < 0)) = true then -1125899906842625 else 1125899906842625) else a * b := rfl
  have hms := fun h => mul_small (a := a) (b := b) h
  have hpos : b ≠ 0 → 0 < absF b := fun h => by rw [absF_eq]; omega
  have hquo := fun h => quo_eq (a := 1125899906842624) (b := absF b) (by decide) (by decide) h
  have hmw := fun h => mulW_eq (a := a) (b := b) h
  generalize timesF a b = r at *
  generalize absF a = A at *
  generalize absF b = B at *
  refine PC.enter 29 [.tmp 4] [] Go.Proofs.Tryz.func200 rfl rfl rfl rfl rfl (by simp) (AWp.of ?_); simp only [go_sem]
  repeat (first | ((with_reducible refine AWp.ofC ?_ ?_); (focus exact rfl); simp only [go_sem]) | ((with_reducible refine an ?_ ?_); focus exact Au))
  refine ⟨fun h3 => ?_, fun h3 => ?_⟩
  · repeat (first | ((with_reducible refine AWp.ofC ?_ ?_); (focus exact rfl); simp only [go_sem]) | ((with_reducible refine an ?_ ?_); focus exact Au))
    refine ret_eq ?_; simp only [go_sem]
    rw [hsp, if_pos h3]
  intro h3'
  rw [if_neg (by intro h; rcases h with h | h; exact h3 h; exact h3' h)] at hsp
  have hB := hpos h3'
  have hq := hquo hB
  repeat (first | ((with_reducible refine AWp.ofC ?_ ?_); (focus exact rfl); simp only [go_sem]) | ((with_reducible refine an ?_ ?_); focus exact Au))
  repeat ((with_reducible refine an ?_ ?_); focus exact As)
  refine (h1).val.use ?_; simp only [go_sem]
  repeat (first | ((with_reducible refine AWp.ofC ?_ ?_); (focus exact rfl); simp only [go_sem]) | ((with_reducible refine an ?_ ?_); focus exact Au))
  repeat ((with_reducible refine an ?_ ?_); focus exact As)
  refine (h2).val.use ?_; simp only [go_sem]
  repeat (first | ((with_reducible refine AWp.ofC ?_ ?_); (focus exact rfl); simp only [go_sem, hq]) | ((with_reducible refine an ?_ ?_); focus exact Au))
  refine ⟨fun h4 => ?_, fun h4 => ?_⟩
  · rw [if_pos h4] at hsp
    repeat (first | ((with_reducible refine AWp.ofC ?_ ?_); (focus exact rfl); simp only [go_sem]) | ((with_reducible refine an ?_ ?_); focus exact Au))
    repeat (first | ((with_reducible refine AWp.ofC ?_ ?_); (focus exact rfl); simp only [go_sem]) | ((with_reducible refine an ?_ ?_); focus exact Au))
    refine ⟨fun h5 => ?_, fun h5 => ?_⟩
    · repeat (first | ((with_reducible refine AWp.ofC ?_ ?_); (focus exact rfl); simp only [go_sem]) | ((with_reducible refine an ?_ ?_); focus exact Au))
      refine ret_eq ?_; simp only [go_sem]
      rw [hsp, if_pos (by simpa using h5)]
    · repeat (first | ((with_reducible refine AWp.ofC ?_ ?_); (focus exact rfl); simp only [go_sem]) | ((with_reducible refine an ?_ ?_); focus exact Au))
      refine ret_eq ?_; simp only [go_sem]
      rw [hsp, if_neg (by simpa using h5)]
  rw [if_neg h4] at hsp
  have hm := hms h3' h4
  repeat (first | ((with_reducible refine AWp.ofC ?_ ?_); (focus exact rfl); simp only [go_sem]) | ((with_reducible refine an ?_ ?_); focus exact Au))
  refine ret_eq ?_; simp only [go_sem]
  rw [hsp, hmw (by unfold I64; omega)]
theorem ref28_times (a b : Int) (ha : -1125899906842625 ≤ a ∧ a ≤ 1125899906842625) (hb : -1125899906842625 ≤ b ∧ b ≤ 1125899906842625) : PC Go.Proofs.Tryz.prog 224 [ai a, ai b] (ai (timesF a b)) := by
  have hsp : timesF a b = if a = 0 ∨ b = 0 then 0 else if 1125899906842624 / absF b < absF a then (if (decide (a < 0) != decide (b < 0)) = true then -1125899906842625 else 1125899906842625) else a * b := rfl
  have hms := fun h => mul_small (a := a) (b := b) h
  have hpos : b ≠ 0 → 0 < absF b := fun h => by rw [absF_eq]; omega
  have hquo := fun h => quo_eq (a := 1125899906842624) (b := absF b) (by decide) (by decide) h
  have hmw := fun h => mulW_eq (a := a) (b := b) h
  have hA : absF a = if a < -a then -a else a := rfl
  have hB : absF b = if b < -b then -b else b := rfl
  generalize timesF a b = r at *
  generalize absF a = A at *
  generalize absF b = B at *
  refine PC.enter 33 [.tmp 4] [] Go.Proofs.Tryz.func224 rfl rfl rfl rfl rfl (by simp) (AWp.of ?_); simp only [go_sem]
  repeat (first | ((with_reducible refine AWp.ofC ?_ ?_); (focus exact rfl); simp only [go_sem]) | ((with_reducible refine an ?_ ?_); focus exact Au))
  refine ⟨fun h3 => ?_, fun h3 => ?_⟩
  · intro h3'
    rw [if_neg (by intro h; rcases h with h | h; exact h3 h; exact h3' h)] at hsp
    have hq := hquo (hpos h3')
    repeat (first | ((with_reducible refine AWp.ofC ?_ ?_); (focus exact rfl); simp only [go_sem, ← hA, ← hB, hq]) | ((with_reducible refine an ?_ ?_); focus exact Au))
    refine ⟨fun h4 => ?_, fun h4 => ?_⟩
    · rw [if_pos h4] at hsp
      repeat (first | ((with_reducible refine AWp.ofC ?_ ?_); (focus exact rfl); simp only [go_sem]) | ((with_reducible refine an ?_ ?_); focus exact Au))
      refine ⟨fun h5 => ?_, fun h5 => ?_⟩
      · repeat (first | ((with_reducible refine AWp.ofC ?_ ?_); (focus exact rfl); simp only [go_sem]) | ((with_reducible refine an ?_ ?_); focus exact Au))
        refine ret_eq ?_; simp only [go_sem]
        rw [hsp, if_pos (by simpa using h5)]
      · repeat (first | ((with_reducible refine AWp.ofC ?_ ?_); (focus exact rfl); simp only [go_sem]) | ((with_reducible refine an ?_ ?_); focus exact Au))
        refine ret_eq ?_; simp only [go_sem]
        rw [hsp, if_neg (by simpa using h5)]
    rw [if_neg h4] at hsp
    have hm := hms h3' h4
    repeat (first | ((with_reducible refine AWp.ofC ?_ ?_); (focus exact rfl); simp only [go_sem]) | ((with_reducible refine an ?_ ?_); focus exact Au))
    refine ret_eq ?_; simp only [go_sem]
    rw [hsp, hmw (by unfold I64; omega)]
  have h0 : a * b = 0 := by
    by_cases e : a = 0
    · rw [e, Int.zero_mul]
    · rw [h3 e, Int.mul_zero]
  rw [if_pos (by by_cases e : a = 0; exact .inl e; exact .inr (h3 e))] at hsp
  repeat (first | ((with_reducible refine AWp.ofC ?_ ?_); (focus exact rfl); simp only [go_sem]) | ((with_reducible refine an ?_ ?_); focus exact Au))
  refine ret_eq ?_; simp only [go_sem]
  rw [hsp, hmw (by unfold I64; omega), h0]
/-! ### Lists of numbers -/
theorem ints_minL (l : List Int) (hl : l.length ≤ 2000000) (h0 : 0 < l.length) : PC Go.Proofs.Tryz.prog 219 [aInts l] (ai (minL l)) := by
  have hg0 := getD_map (f := ai) h0
  have hm1 : minL (l.take 1) = l[0] := by cases l with | nil => simp at h0 | cons a r => rfl
  have hfull : minL (l.take l.length) = minL l := by rw [List.take_length]
  generalize minL l = res at *
  refine PC.enter 25 [.tmp 2] [] Go.Proofs.Tryz.func219 rfl rfl rfl rfl rfl (by simp) (AWp.of ?_); simp only [go_sem]
  repeat (first | ((with_reducible refine AWp.ofC ?_ ?_); (focus exact rfl); simp only [go_sem]) | ((with_reducible refine an ?_ ?_); focus exact Au))
  intro _
  repeat (first | ((with_reducible refine AWp.ofC ?_ ?_); (focus exact rfl); simp only [go_sem, hg0]) | ((with_reducible refine an ?_ ?_); focus exact Au))
  refine AWp.block (AWp.loopN [3, 4] [0] (fun m vs L => ∃ i : Nat, 1 ≤ i ∧ i ≤ l.length ∧ m = l.length - i ∧ L = [] ∧ vs = [ai (minL (l.take i)), ai i]) (l.length - 1) ⟨1, by omega, by omega, rfl, rfl, by rw [hm1]; rfl⟩ ?_)
  rintro m vs L - ⟨i, i1, i2, rfl, rfl, rfl⟩
  simp only [go_sem]
  repeat (first | ((with_reducible refine AWp.ofC ?_ ?_); (focus exact rfl); simp only [go_sem]) | ((with_reducible refine an ?_ ?_); focus exact Au))
  refine ⟨fun h3 => ?_, fun h3 => ?_⟩
  · have hil : i < l.length := by omega
    have hg := getD_map (f := ai) hil
    have ht := minL_take (l := l) (by omega) hil
    repeat (first | ((with_reducible refine AWp.ofC ?_ ?_); (focus exact rfl); simp only [go_sem, hg]) | ((with_reducible refine an ?_ ?_); focus exact Au))
    refine ⟨_, List.Sublist.refl _, l.length - (i + 1), by omega, i + 1, by omega, by omega, rfl, rfl, ?_⟩
    rw [ht]; rfl
  · repeat (first | ((with_reducible refine AWp.ofC ?_ ?_); (focus exact rfl); simp only [go_sem]) | ((with_reducible refine an ?_ ?_); focus exact Au))
    refine ret_eq ?_; simp only [go_sem]
    rw [← hfull, show i = l.length by omega]
theorem ints_maxL (l : List Int) (hl : l.length ≤ 2000000) (h0 : 0 < l.length) : PC Go.Proofs.Tryz.prog 220 [aInts l] (ai (maxL l)) := by
  have hg0 := getD_map (f := ai) h0
  have hm1 : maxL (l.take 1) = l[0] := by cases l with | nil => simp at h0 | cons a r => rfl
  have hfull : maxL (l.take l.length) = maxL l := by rw [List.take_length]
  generalize maxL l = res at *
  refine PC.enter 25 [.tmp 2] [] Go.Proofs.Tryz.func220 rfl rfl rfl rfl rfl (by simp) (AWp.of ?_); simp only [go_sem]
  repeat (first | ((with_reducible refine AWp.ofC ?_ ?_); (focus exact rfl); simp only [go_sem]) | ((with_reducible refine an ?_ ?_); focus exact Au))
  intro _
  repeat (first | ((with_reducible refine AWp.ofC ?_ ?_); (focus exact rfl); simp only [go_sem, hg0]) | ((with_reducible refine an ?_ ?_); focus exact Au))
  refine AWp.block (AWp.loopN [3, 4] [0] (fun m vs L => ∃ i : Nat, 1 ≤ i ∧ i ≤ l.length ∧ m = l.length - i ∧ L = [] ∧ vs = [ai (maxL (l.take i)), ai i]) (l.length - 1) ⟨1, by omega, by omega, rfl, rfl, by rw [hm1]; rfl⟩ ?_)
  rintro m vs L - ⟨i, i1, i2, rfl, rfl, rfl⟩
  simp only [go_sem]
  repeat (first | ((with_reducible refine AWp.ofC ?_ ?_); (focus exact rfl); simp only [go_sem]) | ((with_reducible refine an ?_ ?_); focus exact Au))
  refine ⟨fun h3 => ?_, fun h3 => ?_⟩
  · have hil : i < l.length := by omega
    have hg := getD_map (f := ai) hil
    have ht := maxL_take (l := l) (by omega) hil
    repeat (first | ((with_reducible refine AWp.ofC ?_ ?_); (focus exact rfl); simp only [go_sem, hg]) | ((with_reducible refine an ?_ ?_); focus exact Au))
    refine ⟨_, List.Sublist.refl _, l.length - (i + 1), by omega, i + 1, by omega, by omega, rfl, rfl, ?_⟩
    rw [ht]; rfl
  · repeat (first | ((with_reducible refine AWp.ofC ?_ ?_); (focus exact rfl); simp only [go_sem]) | ((with_reducible refine an ?_ ?_); focus exact Au))
    refine ret_eq ?_; simp only [go_sem]
    rw [← hfull, show i = l.length by omega]
theorem predtype_hull (l : List Int) (hl : l.length ≤ 2000000) (h0 : 0 < l.length) : PC Go.Proofs.Tryz.prog 199 [aInts l] (aIv (minL l) (maxL l)) := by
  have h1 := ints_minL l hl h0
  have h2 := ints_maxL l hl h0
  generalize minL l = a at *
  generalize maxL l = b at *
  refine PC.enter 8 [.cell 2 193] [] Go.Proofs.Tryz.func199 rfl rfl rfl rfl rfl (by simp) (AWp.of ?_); simp only [go_sem]
  repeat (first | ((with_reducible refine AWp.ofC ?_ ?_); (focus exact rfl); simp only [go_sem]) | ((with_reducible refine an ?_ ?_); focus exact Au))
  intro b2
  repeat (first | ((with_reducible refine AWp.ofC ?_ ?_); (focus exact rfl); simp only [go_sem]) | ((with_reducible refine an ?_ ?_); focus exact Au))
  repeat ((with_reducible refine an ?_ ?_); focus exact As)
  refine (h1).val.use ?_; simp only [go_sem]
  repeat (first | ((with_reducible refine AWp.ofC ?_ ?_); (focus exact rfl); simp only [go_sem]) | ((with_reducible refine an ?_ ?_); focus exact Au))
  repeat ((with_reducible refine an ?_ ?_); focus exact As)
  refine (h2).val.use ?_; simp only [go_sem]
  repeat (first | ((with_reducible refine AWp.ofC ?_ ?_); (focus exact rfl); simp only [go_sem]) | ((with_reducible refine an ?_ ?_); focus exact Au))
  refine ret_eq ?_; simp only [go_sem]
  rfl
/-! ### Messages -/
theorem countP_take {l : List Ev} {f : Ev → Bool} {k : Nat} (hk : k < l.length) : ((l.take (k + 1)).countP f : Int) = (l.take k).countP f + if f l[k] = true then 1 else 0 := by
  rw [List.take_succ_eq_append_getElem hk, List.countP_append, List.countP_cons, List.countP_nil]
  split <;> simp
theorem msgN_get {ps : List Pr} {p : Nat} (hp : p < ps.length) (q : Int) : msgN ps p q = (ps[p].evs.countP (sentTo q) : Int) := by unfold msgN; simp only [Int.toNat_natCast, List.getElem?_eq_getElem hp]
theorem evN_get {ps : List Pr} {p : Nat} (hp : p < ps.length) : evN ps p = ps[p].evs.length := by unfold evN; simp only [Int.toNat_natCast, List.getElem?_eq_getElem hp]
theorem predtype_messages (ps : List Pr) (hs : Sm ps) (p : Int) (hpb : isPB ps.length p = true) (q : Int) : PC Go.Proofs.Tryz.prog 217 [aTr ps, ai p, ai q] (ai (msgN ps p q)) := by
  obtain ⟨p, rfl, hp⟩ := isPB_nat hpb
  have hm := List.getElem_mem hp
  have hel := hs.evs _ hm
  have hgp := getD_map (f := aPr) hp
  rw [msgN_get hp]
  refine PC.enter 34 [.tmp 6] [3, 9] Go.Proofs.Tryz.func217 rfl rfl rfl rfl rfl (by simp) (AWp.of ?_); simp only [go_sem]
  repeat (first | ((with_reducible refine AWp.ofC ?_ ?_); (focus exact rfl); simp only [go_sem, hgp]) | ((with_reducible refine an ?_ ?_); focus exact Au))
  refine AWp.range' ps[p].evs.length [7] [2, 15, 16] (fun k vs L => L = [] ∧ vs = [ai ((ps[p].evs.take k).countP (sentTo q) : Int)]) (by omega) rfl rfl rfl ⟨rfl, rfl⟩ ?_ ?_
  · rintro k vs L' hk - ⟨rfl, rfl⟩
    have hge := getD_map (f := aEv) hk
    have hst := countP_take (f := sentTo q) hk
    have hcl : (ps[p].evs.take k).countP (sentTo q) ≤ ps[p].evs.length := Nat.le_trans List.countP_le_length (by rw [List.length_take]; omega)
    have hsp : sentTo q ps[p].evs[k] = (decide (ps[p].evs[k].kind = 2) && decide (ps[p].evs[k].peer = q)) := rfl
    generalize ps[p].evs[k] = e at *
    simp only [go_sem]
    repeat (first | ((with_reducible refine AWp.ofC ?_ ?_); (focus exact rfl); simp only [go_sem, hge]) | ((with_reducible refine an ?_ ?_); focus exact Au))
    intro b9
    repeat (first | ((with_reducible refine AWp.ofC ?_ ?_); (focus exact rfl); simp only [go_sem]) | ((with_reducible refine an ?_ ?_); focus exact Au))
    refine ⟨fun h1 => ?_, fun h1 => ?_⟩
    · intro h2
      repeat (first | ((with_reducible refine AWp.ofC ?_ ?_); (focus exact rfl); simp only [go_sem]) | ((with_reducible refine an ?_ ?_); focus exact Au))
      refine ⟨_, List.Sublist.refl _, rfl, ?_⟩
      rw [hst, hsp, decide_eq_true h1, decide_eq_true h2]
      try rfl
    · refine ⟨_, List.Sublist.refl _, rfl, ?_⟩
      rw [hst, hsp, if_neg (by simp only [Bool.and_eq_true, decide_eq_true_eq]; exact fun h => h1 h.1 h.2), Int.add_zero]
  · rintro vs L' - ⟨rfl, rfl⟩
    simp only [go_sem]
    repeat (first | ((with_reducible refine AWp.ofC ?_ ?_); (focus exact rfl); simp only [go_sem]) | ((with_reducible refine an ?_ ?_); focus exact Au))
    refine ret_eq ?_; simp only [go_sem]
theorem ref28_sent (ps : List Pr) (hs : Sm ps) (p : Int) (hpb : isPB ps.length p = true) (q : Int) : PC Go.Proofs.Tryz.prog 223 [aTr ps, ai p, ai q] (ai (msgN ps p q)) := by
  obtain ⟨p, rfl, hp⟩ := isPB_nat hpb
  have hm := List.getElem_mem hp
  have hel := hs.evs _ hm
  have hgp := getD_map (f := aPr) hp
  rw [msgN_get hp]
  refine PC.enter 42 [.tmp 6] [3, 9] Go.Proofs.Tryz.func223 rfl rfl rfl rfl rfl (by simp) (AWp.of ?_); simp only [go_sem]
  repeat (first | ((with_reducible refine AWp.ofC ?_ ?_); (focus exact rfl); simp only [go_sem]) | ((with_reducible refine an ?_ ?_); focus exact Au))
  refine AWp.block (AWp.count 8 ps[p].evs.length [7] [1, 2, 3] (fun k vs L => L = [] ∧ vs = [ai ((ps[p].evs.take k).countP (sentTo q) : Int)]) rfl rfl ⟨rfl, rfl⟩ ?_)
  rintro k vs L' hk - ⟨rfl, rfl⟩
  simp only [go_sem]
  repeat (first | ((with_reducible refine AWp.ofC ?_ ?_); (focus exact rfl); simp only [go_sem, hgp]) | ((with_reducible refine an ?_ ?_); focus exact Au))
  refine ⟨fun h0 => ?_, fun h0 => ?_⟩
  · have hk : k < ps[p].evs.length := by omega
    have hge := getD_map (f := aEv) hk
    have hst := countP_take (f := sentTo q) hk
    have hcl : (ps[p].evs.take k).countP (sentTo q) ≤ ps[p].evs.length := Nat.le_trans List.countP_le_length (by rw [List.length_take]; omega)
    have hsp : sentTo q ps[p].evs[k] = (decide (ps[p].evs[k].kind = 2) && decide (ps[p].evs[k].peer = q)) := rfl
    generalize ps[p].evs[k] = e at *
    repeat (first | ((with_reducible refine AWp.ofC ?_ ?_); (focus exact rfl); simp only [go_sem, hgp, hge]) | ((with_reducible refine an ?_ ?_); focus exact Au))
    intro b9
    repeat (first | ((with_reducible refine AWp.ofC ?_ ?_); (focus exact rfl); simp only [go_sem]) | ((with_reducible refine an ?_ ?_); focus exact Au))
    refine ⟨fun h1 => ?_, fun h1 => ?_⟩
    · intro h2
      repeat (first | ((with_reducible refine AWp.ofC ?_ ?_); (focus exact rfl); simp only [go_sem]) | ((with_reducible refine an ?_ ?_); focus exact Au))
      refine ⟨_, List.Sublist.refl _, rfl, ?_⟩
      rw [hst, hsp, decide_eq_true h1, decide_eq_true h2]
      try rfl
    · repeat (first | ((with_reducible refine AWp.ofC ?_ ?_); (focus exact rfl); simp only [go_sem]) | ((with_reducible refine an ?_ ?_); focus exact Au))
      refine ⟨_, List.Sublist.refl _, rfl, ?_⟩
      rw [hst, hsp, if_neg (by simp only [Bool.and_eq_true, decide_eq_true_eq]; exact fun h => h1 h.1 h.2), Int.add_zero]
  · repeat (first | ((with_reducible refine AWp.ofC ?_ ?_); (focus exact rfl); simp only [go_sem]) | ((with_reducible refine an ?_ ?_); focus exact Au))
    refine ret_eq ?_; simp only [go_sem]
    rw [show k = ps[p].evs.length by omega, List.take_length]
end Go.AL
end
section
/- The program's values of expressions and truth of predicates. No condition. -/
namespace Go.AL
open Go Go.RowKit
set_option maxRecDepth 4000
def aView (ps : List Pr) (c : List Int) (V : List (List Int)) : AV := .agg [aPrs ps, aInts c, aRows V]
theorem view_variable1 (v : ByteArray × Int) (k n p q : Int) (s : ByteArray) (l : List Pd) : PC Go.Proofs.Tryz.prog 173 [aVar v, .rp 6 [aPd (.mk k n p q s l)] 0 0] (ab (nmB s v)) := by
  generalize hb : nmB s v = b
  refine PC.enter 9 [.tmp 3] [2] Go.Proofs.Tryz.func173 rfl rfl rfl rfl rfl (by simp) (AWp.of ?_); simp only [go_sem]
  repeat (first | ((with_reducible refine AWp.ofC ?_ ?_); (focus exact rfl); simp only [go_sem]) | ((with_reducible refine an ?_ ?_); focus exact Au))
  refine ret_eq ?_; simp only [go_sem]
  rw [← hb]; rfl
theorem view_variable (ps : List Pr) (hs : Sm ps) (c : List Int) (V : List (List Int)) (k n : Int) (p : Nat) (q : Int) (s : ByteArray) (l : List Pd) (hp : p < ps.length) (hkn : knownB ps p s = true)
    (hV : p < V.length) (hr : V[p].length = ps[p].vars.length) :
    PC Go.Proofs.Tryz.prog 136 [aView ps c V, aPd (.mk k n p q s l)] (ai (V[p].getD (varIx ps[p].vars s).toNat 0)) := by
  have hm := List.getElem_mem hp
  have hk := known_get hp hkn
  obtain ⟨i, hi, hil⟩ := known_ix hk
  have hfi : PC Go.Proofs.Tryz.prog 172 [aVars ps[p].vars, .clo 173 [.rp 6 [aPd (.mk k n p q s l)] 0 0]] (ai (varIx ps[p].vars s)) :=
    vars_indexFunc ps[p].vars (hs.vars _ hm) (.clo 173 [.rp 6 [aPd (.mk k n p q s l)] 0 0]) rfl (nmB s) fun v _ => (view_variable1 v k n p q s l).clo
  rw [hi] at hfi ⊢
  rw [Int.toNat_natCast]
  have hgp := getD_map (f := aPr) hp
  have hgV := getD_map (f := aInts) hV
  have hgr := getD_map (f := ai) (l := V[p]) (k := i) (by omega)
  have hres : V[p].getD i 0 = V[p][i]'(by omega) := by rw [List.getD_eq_getElem?_getD, List.getElem?_eq_getElem (by omega)]; rfl
  rw [hres]
  generalize V[p][i]'(by omega) = w at *
  have hrl : i < V[p].length := by omega
  unfold aView
  simp only [aPd_mk] at *
  refine PC.enter 25 [.tmp 4] [2, 3] Go.Proofs.Tryz.func136 rfl rfl rfl rfl rfl (by simp) (AWp.of ?_); simp only [go_sem]
  repeat (first | ((with_reducible refine AWp.ofC ?_ ?_); (focus exact rfl); simp only [go_sem, hgp]) | ((with_reducible refine an ?_ ?_); focus exact Au))
  repeat ((with_reducible refine an ?_ ?_); focus exact As)
  refine (hfi).val.use ?_; simp only [go_sem, hgp, hgV, hgr]
  repeat (first | ((with_reducible refine AWp.ofC ?_ ?_); (focus exact rfl); simp only [go_sem, hgV, hgr]) | ((with_reducible refine an ?_ ?_); focus exact Au))
  refine ret_eq ?_; simp only [go_sem]
def leafOk (ps : List Pr) (c : List Int) (V : List (List Int)) (o : Obs) : Pd → Prop
  | .mk k n p q s l => (k = 2 → PC Go.Proofs.Tryz.prog 136 [aView ps c V, aPd (.mk k n p q s l)] (ai (o.var p s))) ∧ (k = 3 → 0 ≤ p ∧ c[p.toNat]? = some (o.cnt p)) ∧
    (k = 4 → PC Go.Proofs.Tryz.prog 137 [aView ps c V, aPd (.mk k n p q s l)] (ai (o.chn p q)))
theorem bd_child {ps : List Pr} {k n p q : Int} {s : ByteArray} {l : List Pd} (h : (intF ps (.mk k n p q s l)).2.2 = true) (hl : l.length ≤ 2) : ∀ x ∈ l, (intF ps x).2.2 = true := by
  rw [intF_mk] at h
  match l, hl with
  | [], _ => intro x hx; cases hx
  | [a], _ =>
    simp only [List.map_cons, List.map_nil, bdN] at h
    split at h
    · rename_i e; intro x hx; simp at hx; subst hx; exact e
    · cases h
  | [a, b], _ =>
    simp only [List.map_cons, List.map_nil, bdN] at h
    split at h
    · rename_i e; intro x hx; simp at hx; rcases hx with rfl | rfl; exact e.1; exact e.2
    · cases h
theorem view_number (ps : List Pr) (c : List Int) (V : List (List Int)) (o : Obs) (hcl : c.length ≤ 1000000) (t : Pd) : szF t ≤ 1000000 → okT ps t = true → t.kind ≤ 8 → (intF ps t).2.2 = true → AllP (obsB ps o) t → AllP (leafOk ps c V o) t →
    PC Go.Proofs.Tryz.prog 94 [aView ps c V, aPd t] (ai (valF o t)) := by
  induction t using Pd.ind with
  | _ k n p q s l ih =>
  intro hz ht hk hi hob hlf
  have hbnd := valF_bounds ps o _ ht hk hob hi
  obtain ⟨o1, o2, o3, o4⟩ := okT_sub ht
  obtain ⟨hpl, _⟩ := loc_len o1
  simp only [Pd.kind] at hk
  have hch := child_le ht (show k ≤ 12 by omega)
  have hsz : szF (.mk k n p q s l) = szL l + 1 := by rw [szF]
  have hsp := valF_mk o k n p q s l
  have hci := bd_child hi
  obtain ⟨⟨lf2, lf3, lf4⟩, hls⟩ := AllP_sub hlf
  obtain ⟨_, hos⟩ := AllP_sub hob
  generalize valF o (.mk k n p q s l) = R at *
  have hb : -1125899906842624 ≤ R ∧ R ≤ 1125899906842624 := by omega
  clear hbnd hi
  unfold aView at *
  have hcb := fun (x : Pd) (hx : x ∈ l) (h : l.length ≤ 2) => valF_bounds ps o x (hch x hx).1 (hch x hx).2 (hos x hx) (hci h x hx)
  rcases parts_cases k with ⟨e, hc⟩ | ⟨e, hc⟩ | ⟨e, hc⟩ | e
  · obtain rfl := len0 (l := l) (by omega)
    simp only [List.map_nil, valN, aPd_mk] at *
    have hk4 : k = 1 ∨ k = 2 ∨ k = 3 ∨ k = 4 := by omega
    rcases hk4 with h | h | h | h
    · have hsp : R = n := by rw [hsp, if_pos h]
      refine PC.enter 81 [.tmp 4] [2, 3] Go.Proofs.Tryz.func94 rfl rfl rfl rfl rfl (by simp) (AWp.of ?_); simp only [go_sem]
      repeat (first | ((with_reducible refine AWp.ofC ?_ ?_); (focus exact rfl); simp only [go_sem, (eq_true h)]) | ((with_reducible refine an ?_ ?_); focus exact Au))
      refine ret_eq ?_; simp only [go_sem]
      rw [hsp]
    · have lf := lf2 h
      have h1 : ¬ k = 1 := by omega
      rw [if_neg h1, if_pos h] at hsp
      refine PC.enter 81 [.tmp 4] [2, 3] Go.Proofs.Tryz.func94 rfl rfl rfl rfl rfl (by simp) (AWp.of ?_); simp only [go_sem]
      repeat (first | ((with_reducible refine AWp.ofC ?_ ?_); (focus exact rfl); simp only [go_sem, (eq_true h), h1]) | ((with_reducible refine an ?_ ?_); focus exact Au))
      repeat ((with_reducible refine an ?_ ?_); focus exact As)
      refine (lf).val.use ?_; simp only [go_sem]
      repeat (first | ((with_reducible refine AWp.ofC ?_ ?_); (focus exact rfl); simp only [go_sem]) | ((with_reducible refine an ?_ ?_); focus exact Au))
      refine ret_eq ?_; simp only [go_sem]
      rw [hsp]
    · obtain ⟨p0, pc⟩ := lf3 h
      obtain ⟨hpc, hpe⟩ := List.getElem?_eq_some_iff.1 pc
      have hg := getD_map (f := ai) hpc
      have h1 : ¬ k = 1 := by omega
      have h2 : ¬ k = 2 := by omega
      rw [if_neg h1, if_neg h2, if_pos h] at hsp
      rw [hpe] at hg
      refine PC.enter 81 [.tmp 4] [2, 3] Go.Proofs.Tryz.func94 rfl rfl rfl rfl rfl (by simp) (AWp.of ?_); simp only [go_sem]
      repeat (first | ((with_reducible refine AWp.ofC ?_ ?_); (focus exact rfl); simp only [go_sem, (eq_true h), h1, h2, hg]) | ((with_reducible refine an ?_ ?_); focus exact Au))
      refine ret_eq ?_; simp only [go_sem]
      rw [hsp]
    · have lf := lf4 h
      have h1 : ¬ k = 1 := by omega
      have h2 : ¬ k = 2 := by omega
      have h3 : ¬ k = 3 := by omega
      rw [if_neg h1, if_neg h2, if_neg h3] at hsp
      refine PC.enter 81 [.tmp 4] [2, 3] Go.Proofs.Tryz.func94 rfl rfl rfl rfl rfl (by simp) (AWp.of ?_); simp only [go_sem]
      repeat (first | ((with_reducible refine AWp.ofC ?_ ?_); (focus exact rfl); simp only [go_sem, (eq_true h), h1, h2, h3]) | ((with_reducible refine an ?_ ?_); focus exact Au))
      repeat ((with_reducible refine an ?_ ?_); focus exact As)
      refine (lf).val.use ?_; simp only [go_sem]
      repeat (first | ((with_reducible refine AWp.ofC ?_ ?_); (focus exact rfl); simp only [go_sem]) | ((with_reducible refine an ?_ ?_); focus exact Au))
      refine ret_eq ?_; simp only [go_sem]
      rw [hsp]
  · obtain ⟨a, rfl⟩ := len1 (l := l) (by omega)
    have h5 : k = 5 := by omega
    have h1 : ¬ k = 1 := by omega
    have h2 : ¬ k = 2 := by omega
    have h3 : ¬ k = 3 := by omega
    have h4 : ¬ k = 4 := by omega
    obtain ⟨c1, c2⟩ := hch a (by simp)
    have hza := szL_mem (l := [a]) (x := a) (by simp)
    have hca := ih a (by simp) (by omega) c1 c2 (hci (by simp) a (by simp)) (hos a (by simp)) (hls a (by simp))
    have hcb := hcb a (by simp) (by simp)
    simp only [List.map_cons, List.map_nil, valN] at hsp
    generalize valF o a = A at *
    obtain ⟨ka, na, pa, qa, sa, la⟩ := a
    simp only [aPd_mk, List.map_cons, List.map_nil] at *
    refine PC.enter 81 [.tmp 4] [2, 3] Go.Proofs.Tryz.func94 rfl rfl rfl rfl rfl (by simp) (AWp.of ?_); simp only [go_sem]
    repeat (first | ((with_reducible refine AWp.ofC ?_ ?_); (focus exact rfl); simp only [go_sem, (eq_true h5), h1, h2, h3, h4]) | ((with_reducible refine an ?_ ?_); focus exact Au))
    refine AWp.mix mixed [0, 1, 2, 3, 4, 5, 6, 7] .done (by kernel_rfl) ?_; simp only [go_sem]
    repeat ((with_reducible refine an ?_ ?_); focus exact As)
    refine GCall.use (ai A) (fun _ => ⟨At, (hca).val.use ⟨rfl, rfl⟩⟩) ?_; simp only [go_sem]
    repeat ((with_reducible refine an ?_ ?_); focus exact As)
    repeat (first | ((with_reducible refine AWp.ofC ?_ ?_); (focus exact rfl); simp only [go_sem]) | ((with_reducible refine an ?_ ?_); focus exact Au))
    refine ret_eq ?_; simp only [go_sem]
    rw [hsp]
  · obtain ⟨a, b, rfl⟩ := len2 (l := l) (by omega)
    have h1 : ¬ k = 1 := by omega
    have h2 : ¬ k = 2 := by omega
    have h3 : ¬ k = 3 := by omega
    have h4 : ¬ k = 4 := by omega
    have h5 : ¬ k = 5 := by omega
    obtain ⟨c1, c2⟩ := hch a (by simp)
    obtain ⟨c3, c4⟩ := hch b (by simp)
    have hza := szL_mem (l := [a, b]) (x := a) (by simp)
    have hzb := szL_mem (l := [a, b]) (x := b) (by simp)
    have hca := ih a (by simp) (by omega) c1 c2 (hci (by simp) a (by simp)) (hos a (by simp)) (hls a (by simp))
    have hcc := ih b (by simp) (by omega) c3 c4 (hci (by simp) b (by simp)) (hos b (by simp)) (hls b (by simp))
    have hcba := hcb a (by simp) (by simp)
    have hcbb := hcb b (by simp) (by simp)
    simp only [List.map_cons, List.map_nil, valN] at hsp
    have hmw := fun h => mulW_eq (a := valF o a) (b := valF o b) h
    generalize valF o a = A at *
    generalize valF o b = B at *
    obtain ⟨ka, na, pa, qa, sa, la⟩ := a
    obtain ⟨kb, nb, pb, qb, sb, lb⟩ := b
    simp only [aPd_mk, List.map_cons, List.map_nil] at *
    refine PC.enter 81 [.tmp 4] [2, 3] Go.Proofs.Tryz.func94 rfl rfl rfl rfl rfl (by simp) (AWp.of ?_); simp only [go_sem]
    by_cases h6 : k = 6
    · rw [if_pos h6] at hsp
      repeat (first | ((with_reducible refine AWp.ofC ?_ ?_); (focus exact rfl); simp only [go_sem, (eq_true h6), h1, h2, h3, h4, h5]) | ((with_reducible refine an ?_ ?_); focus exact Au))
      refine AWp.mix mixed [0, 1, 2, 3, 4, 5, 6, 7, 8, 9, 10, 11, 12, 13] .done (by kernel_rfl) ?_; simp only [go_sem]
      repeat ((with_reducible refine an ?_ ?_); focus exact As)
      refine GCall.use (ai A) (fun _ => ⟨At, (hca).val.use ⟨rfl, rfl⟩⟩) ?_; simp only [go_sem]
      repeat ((with_reducible refine an ?_ ?_); focus exact As)
      refine GCall.use (ai B) (fun _ => ⟨At, (hcc).val.use ⟨rfl, rfl⟩⟩) ?_; simp only [go_sem]
      repeat ((with_reducible refine an ?_ ?_); focus exact As)
      repeat (first | ((with_reducible refine AWp.ofC ?_ ?_); (focus exact rfl); simp only [go_sem]) | ((with_reducible refine an ?_ ?_); focus exact Au))
      refine ret_eq ?_; simp only [go_sem]
      rw [hsp]
    by_cases h7 : k = 7
    · rw [if_neg h6, if_pos h7] at hsp
      repeat (first | ((with_reducible refine AWp.ofC ?_ ?_); (focus exact rfl); simp only [go_sem, (eq_true h7), h1, h2, h3, h4, h5, h6]) | ((with_reducible refine an ?_ ?_); focus exact Au))
      refine AWp.mix mixed [0, 1, 2, 3, 4, 5, 6, 7, 8, 9, 10, 11, 12, 13] .done (by kernel_rfl) ?_; simp only [go_sem]
      repeat ((with_reducible refine an ?_ ?_); focus exact As)
      refine GCall.use (ai A) (fun _ => ⟨At, (hca).val.use ⟨rfl, rfl⟩⟩) ?_; simp only [go_sem]
      repeat ((with_reducible refine an ?_ ?_); focus exact As)
      refine GCall.use (ai B) (fun _ => ⟨At, (hcc).val.use ⟨rfl, rfl⟩⟩) ?_; simp only [go_sem]
      repeat ((with_reducible refine an ?_ ?_); focus exact As)
      repeat (first | ((with_reducible refine AWp.ofC ?_ ?_); (focus exact rfl); simp only [go_sem]) | ((with_reducible refine an ?_ ?_); focus exact Au))
      refine ret_eq ?_; simp only [go_sem]
      rw [hsp]
    rw [if_neg h6, if_neg h7] at hsp
    have hmw := hmw (by rw [← hsp]; unfold I64; omega)
    repeat (first | ((with_reducible refine AWp.ofC ?_ ?_); (focus exact rfl); simp only [go_sem, h1, h2, h3, h4, h5, h6, h7]) | ((with_reducible refine an ?_ ?_); focus exact Au))
    refine AWp.seq ?_
    refine AWp.mix mixed [0, 1, 2, 3, 4, 5, 6, 7, 8, 9, 10, 11, 12, 13] .done (by kernel_rfl) ?_; simp only [go_sem]
    repeat ((with_reducible refine an ?_ ?_); focus exact As)
    refine GCall.use (ai A) (fun _ => ⟨At, (hca).val.use ⟨rfl, rfl⟩⟩) ?_; simp only [go_sem]
    repeat ((with_reducible refine an ?_ ?_); focus exact As)
    refine GCall.use (ai B) (fun _ => ⟨At, (hcc).val.use ⟨rfl, rfl⟩⟩) ?_; simp only [go_sem]
    repeat ((with_reducible refine an ?_ ?_); focus exact As)
    repeat (first | ((with_reducible refine AWp.ofC ?_ ?_); (focus exact rfl); simp only [go_sem, hmw]) | ((with_reducible refine an ?_ ?_); focus exact Au))
    refine ret_eq ?_; simp only [go_sem]
    rw [hsp]
  · omega
end Go.AL
end
section
/- The least and the greatest value of a variable. No condition. -/
namespace Go.AL
open Go Go.RowKit
set_option maxRecDepth 4000
theorem variable_values (x : Pr) (h1 : x.vars.length ≤ 1000000) (h2 : x.evs.length ≤ 1000000) (h3 : ∀ e ∈ x.evs, e.asg.length ≤ 1000000) (ha : AsgOk x) (v : Nat) (hv : v < x.vars.length) :
    PC Go.Proofs.Tryz.prog 230 [aPr x, ai v] (aInts (valsF x v)) := by
  have hst := variable_states x
  have hvl := valsF_length x v
  refine PC.enter 20 [.tmp 4] [2, 3, 17] Go.Proofs.Tryz.func230 rfl rfl rfl rfl rfl (by simp) (AWp.of ?_); simp only [go_sem]
  repeat (first | ((with_reducible refine AWp.ofC ?_ ?_); (focus exact rfl); simp only [go_sem]) | ((with_reducible refine an ?_ ?_); focus exact Au))
  intro b5
  repeat ((with_reducible refine an ?_ ?_); focus exact As)
  refine AWp.of ?_; simp only [go_sem]
  repeat ((with_reducible refine an ?_ ?_); focus exact As)
  refine (hst).val.use ?_; simp only [go_sem]
  refine AWp.block (AWp.rangeFunc rfl [3, 5] (stArgs x) (fun j L => ∃ w Lw, L = Lw ++ [(b5, .row 25 1 [w] 1)] ∧ AppSt 3 1 (((valsF x v).take j).map ai) w Lw ∧ ∀ p ∈ Lw, p.1 ≠ b5) (fun _ _ => False)
    rfl (variable_states1 x h1 h2 h3 ha) (fun y hy => by obtain ⟨j, hj⟩ := List.getElem?_of_mem hy; unfold stArgs at hj; rw [List.getElem?_map, Option.map_eq_some_iff] at hj; obtain ⟨_, _, rfl⟩ := hj; rfl) ⟨anil, [], rfl, .nil, by simp⟩ ?_ ?_ ?_)
  · rintro j y L' l hy ⟨w, Lw, rfl, hA, hne⟩
    have hjl : j ≤ x.evs.length := by
      have := (List.getElem?_eq_some_iff.1 hy).1
      unfold stArgs at this; simp at this; omega
    rw [stArgs_get x j hjl] at hy
    cases hy
    have hvs : v < (stateAt x j).length := by rw [stateAt_length]; exact hv
    have hgs := getD_map (f := ai) hvs
    have hjv : j < (valsF x v).length := by omega
    have hsu : ((valsF x v).take (j + 1)).map ai = ((valsF x v).take j).map ai ++ [ai (stateAt x j)[v]] := by
      rw [List.take_succ_eq_append_getElem hjv, List.map_append, valsF_get, List.getD_eq_getElem?_getD, List.getElem?_eq_getElem hvs]; rfl
    have hyl : (((valsF x v).take j).map ai).length ≤ 1000000 := by rw [List.length_map, List.length_take]; omega
    rw [hsu]
    generalize ((valsF x v).take j).map ai = ys at *
    rcases hA.inv with ⟨e1, rfl, rfl⟩ | ⟨b, cap, rfl, rfl⟩
    · simp only [go_sem]
      repeat ((with_reducible refine an ?_ ?_); focus exact As)
      refine AWp.of ?_; simp only [go_sem]
      refine AWp.block ?_
      refine AWp.mix mixed [1, 2, 3, 4] (.step 0 (.step 5 (.step 6 (.step 7 .done .done) .done) .done) (.step 5 (.step 0 (.step 6 (.step 7 .done .done) .done) .done) .done)) (by kernel_rfl) ?_; simp only [go_sem, hgs]
      repeat ((with_reducible refine an ?_ ?_); focus exact As)
      intro b' cap' hlt _
      have n5 : ¬ b5 = b' := by omega
      simp only [go_sem, n5]
      repeat ((with_reducible refine an ?_ ?_); focus exact As)
      refine ⟨_, List.Sublist.refl _, _, [(b', .row 3 1 [_] cap')], rfl, ?_, ?_⟩
      · rw [e1]; exact .row _ [_] _
      · intro p hp; simp only [List.mem_singleton] at hp; subst hp; exact fun e => n5 e.symm
    · have n1 : ¬ b = b5 := hne (b, _) List.mem_cons_self
      have n2 : ¬ b5 = b := fun e => n1 e.symm
      simp only [go_sem]
      repeat ((with_reducible refine an ?_ ?_); focus exact As)
      refine AWp.of ?_; simp only [go_sem, n1, n2]
      refine AWp.block ?_
      refine AWp.mix mixed [1, 2, 3, 4] (.step 0 (.step 5 (.step 6 (.step 7 .done .done) .done) .done) (.step 5 (.step 0 (.step 6 (.step 7 .done .done) .done) .done) .done)) (by kernel_rfl) ?_; simp only [go_sem, hgs, n1, n2]
      repeat ((with_reducible refine an ?_ ?_); focus exact As)
      intro b' cap' n5 _
      simp only [go_sem, n5]
      repeat ((with_reducible refine an ?_ ?_); focus exact As)
      refine ⟨_, List.Sublist.refl _, _, [(b', .row 3 1 (ys ++ [_]) cap')], rfl, ?_, ?_⟩
      · have := AppSt.row (t := 3) (k := 1) b' (ys ++ [ai (stateAt x j)[v]]) cap'
        simpa using this
      · intro p hp; simp only [List.mem_singleton] at hp; subst hp; exact fun e => n5 e.symm
  · rintro L' ⟨w, Lw, rfl, hA, hne⟩
    have hl : (stArgs x).length = x.evs.length + 1 := by unfold stArgs; simp
    rw [hl, ← hvl, List.take_length] at hA
    rcases hA.inv with ⟨e1, rfl, rfl⟩ | ⟨b, cap, rfl, rfl⟩
    · exfalso
      have := congrArg List.length e1
      rw [List.length_map, hvl] at this
      cases this
    · have n1 : ¬ b = b5 := hne (b, _) List.mem_cons_self
      have n2 : ¬ b5 = b := fun e => n1 e.symm
      simp only [go_sem]
      repeat (first | ((with_reducible refine AWp.ofC ?_ ?_); (focus exact rfl); simp only [go_sem, n1, n2]) | ((with_reducible refine an ?_ ?_); focus exact Au))
      refine ret_view [true] ?_; simp only [go_sem]
      exact Vw.ofLs (if_pos rfl) (by simp)
  · rintro e L' h
    exact h.elim
theorem variable_index1 (v : ByteArray × Int) (s : ByteArray) : PC Go.Proofs.Tryz.prog 232 [aVar v, .rp 1 [astr s] 0 0] (ab (nmB s v)) := by
  generalize hb : nmB s v = b
  refine PC.enter 8 [.tmp 3] [2] Go.Proofs.Tryz.func232 rfl rfl rfl rfl rfl (by simp) (AWp.of ?_); simp only [go_sem]
  repeat (first | ((with_reducible refine AWp.ofC ?_ ?_); (focus exact rfl); simp only [go_sem]) | ((with_reducible refine an ?_ ?_); focus exact Au))
  refine ret_eq ?_; simp only [go_sem]
  rw [← hb]; rfl
theorem variable_index (x : Pr) (h1 : x.vars.length ≤ 1000000) (s : ByteArray) : PC Go.Proofs.Tryz.prog 231 [aPr x, astr s] (ai (varIx x.vars s)) := by
  have hfi : PC Go.Proofs.Tryz.prog 172 [aVars x.vars, .clo 232 [.rp 1 [astr s] 0 0]] (ai (varIx x.vars s)) :=
    vars_indexFunc x.vars h1 (.clo 232 [.rp 1 [astr s] 0 0]) rfl (nmB s) fun v _ => (variable_index1 v s).clo
  generalize varIx x.vars s = r at *
  refine PC.enter 9 [.tmp 4] [2, 3] Go.Proofs.Tryz.func231 rfl rfl rfl rfl rfl (by simp) (AWp.of ?_); simp only [go_sem]
  repeat (first | ((with_reducible refine AWp.ofC ?_ ?_); (focus exact rfl); simp only [go_sem]) | ((with_reducible refine an ?_ ?_); focus exact Au))
  repeat ((with_reducible refine an ?_ ?_); focus exact As)
  refine (hfi).val.use ?_; simp only [go_sem]
  repeat (first | ((with_reducible refine AWp.ofC ?_ ?_); (focus exact rfl); simp only [go_sem]) | ((with_reducible refine an ?_ ?_); focus exact Au))
  refine ret_eq ?_; simp only [go_sem]
theorem variable_find (ps : List Pr) (hs : Sm ps) (hv : validF ps = true) (p : Nat) (hp : p < ps.length) (s : ByteArray) (hk : ¬ varIx ps[p].vars s < 0) : PC Go.Proofs.Tryz.prog 229 [aTr ps, ai p, astr s] (.tup [ai (varIx ps[p].vars s), ai 0]) := by
  have hval := trace_Valid ps hs
  rw [hv] at hval
  have hm := List.getElem_mem hp
  have hgp := getD_map (f := aPr) hp
  have hix := variable_index ps[p] (hs.vars _ hm) s
  generalize varIx ps[p].vars s = r at *
  refine PC.enter 33 [.tmp 6, .tmp 7] [3] Go.Proofs.Tryz.func229 rfl rfl rfl rfl rfl (by simp) (AWp.of ?_); simp only [go_sem]
  repeat (first | ((with_reducible refine AWp.ofC ?_ ?_); (focus exact rfl); simp only [go_sem]) | ((with_reducible refine an ?_ ?_); focus exact Au))
  repeat ((with_reducible refine an ?_ ?_); focus exact As)
  refine (hval).val.use ?_; simp only [go_sem]
  have h2 : ¬ ((p : Int) < 0) := by omega
  have h3 : ¬ ((ps.length : Int) ≤ p) := by omega
  repeat (first | ((with_reducible refine AWp.ofC ?_ ?_); (focus exact rfl); simp only [go_sem, h2, h3, hgp]) | ((with_reducible refine an ?_ ?_); focus exact Au))
  repeat ((with_reducible refine an ?_ ?_); focus exact As)
  refine (hix).val.use ?_; simp only [go_sem, hgp]
  repeat (first | ((with_reducible refine AWp.ofC ?_ ?_); (focus exact rfl); simp only [go_sem, hk]) | ((with_reducible refine an ?_ ?_); focus exact Au))
  refine ret_eq ?_; simp only [go_sem]
theorem variable_Range (ps : List Pr) (hs : Sm ps) (hv : validF ps = true) (p : Int) (hpb : isPB ps.length p = true) (s : ByteArray) (hkn : knownB ps p s = true) :
    PC Go.Proofs.Tryz.prog 218 [aTr ps, ai p, astr s] (.tup [ai (varLo ps p s), ai (varHi ps p s), ai 0]) := by
  obtain ⟨p, rfl, hp⟩ := isPB_nat hpb
  have hm := List.getElem_mem hp
  have hgp := getD_map (f := aPr) hp
  have hk : ps[p].vars.any (nmB s) = true := by unfold knownB at hkn; simpa only [Int.toNat_natCast, List.getElem?_eq_getElem hp] using hkn
  have hng : ¬ varIx ps[p].vars s < 0 := fun h => by rw [(varIx_neg _ _).1 h] at hk; cases hk
  have hfd := variable_find ps hs hv p hp s hng
  have hlt : (varIx ps[p].vars s).toNat < ps[p].vars.length := by
    unfold varIx at hng ⊢
    cases hf : ps[p].vars.findIdx? (nmB s) with
    | none => rw [hf] at hng; exact absurd (by decide) hng
    | some i => rw [List.findIdx?_eq_some_iff_getElem] at hf; obtain ⟨hi, _⟩ := hf; exact hi
  have hvals := variable_values ps[p] (hs.vars _ hm) (hs.evs _ hm) (hs.asg _ hm) (asg_of_valid hv p hp) _ hlt
  have hvl := valsF_length ps[p] (varIx ps[p].vars s).toNat
  have hel := hs.evs _ hm
  have hmn := ints_minL (valsF ps[p] (varIx ps[p].vars s).toNat) (by omega) (by omega)
  have hmx := ints_maxL (valsF ps[p] (varIx ps[p].vars s).toNat) (by omega) (by omega)
  have e1 : varLo ps p s = minL (valsF ps[p] (varIx ps[p].vars s).toNat) := by unfold varLo; simp only [Int.toNat_natCast, List.getElem?_eq_getElem hp]
  have e2 : varHi ps p s = maxL (valsF ps[p] (varIx ps[p].vars s).toNat) := by unfold varHi; simp only [Int.toNat_natCast, List.getElem?_eq_getElem hp]
  rw [e1, e2]
  have hix : ((varIx ps[p].vars s).toNat : Int) = varIx ps[p].vars s := by omega
  rw [hix] at hvals
  generalize minL (valsF ps[p] (varIx ps[p].vars s).toNat) = lo at *
  generalize maxL (valsF ps[p] (varIx ps[p].vars s).toNat) = hi at *
  generalize valsF ps[p] (varIx ps[p].vars s).toNat = vl at *
  generalize varIx ps[p].vars s = ix at *
  refine PC.enter 32 [.tmp 6, .tmp 7, .tmp 8] [3] Go.Proofs.Tryz.func218 rfl rfl rfl rfl rfl (by simp) (AWp.of ?_); simp only [go_sem]
  repeat (first | ((with_reducible refine AWp.ofC ?_ ?_); (focus exact rfl); simp only [go_sem]) | ((with_reducible refine an ?_ ?_); focus exact Au))
  repeat ((with_reducible refine an ?_ ?_); focus exact As)
  refine (hfd).val.use ?_; simp only [go_sem]
  repeat (first | ((with_reducible refine AWp.ofC ?_ ?_); (focus exact rfl); simp only [go_sem, hgp]) | ((with_reducible refine an ?_ ?_); focus exact Au))
  repeat ((with_reducible refine an ?_ ?_); focus exact As)
  refine (hvals).val.use ?_; simp only [go_sem, hgp]
  repeat (first | ((with_reducible refine AWp.ofC ?_ ?_); (focus exact rfl); simp only [go_sem]) | ((with_reducible refine an ?_ ?_); focus exact Au))
  repeat ((with_reducible refine an ?_ ?_); focus exact As)
  refine (hmn).val.use ?_; simp only [go_sem]
  repeat (first | ((with_reducible refine AWp.ofC ?_ ?_); (focus exact rfl); simp only [go_sem]) | ((with_reducible refine an ?_ ?_); focus exact Au))
  repeat ((with_reducible refine an ?_ ?_); focus exact As)
  refine (hmx).val.use ?_; simp only [go_sem]
  repeat (first | ((with_reducible refine AWp.ofC ?_ ?_); (focus exact rfl); simp only [go_sem]) | ((with_reducible refine an ?_ ?_); focus exact Au))
  refine ret_eq ?_; simp only [go_sem]
end Go.AL
end
