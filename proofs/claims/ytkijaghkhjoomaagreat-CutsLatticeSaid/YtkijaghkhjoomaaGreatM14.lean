/- Texts of this claim's proof: WDl+1, WJn+1, WPw2+1, WTl+1, WAw+1, WBig+1, WRt+1, WTm. No condition. -/
import Derived.Test.YtkijaghkhjoomaaGreatM0
import Derived.Test.YtkijaghkhjoomaaGreatM1
import Derived.Test.YtkijaghkhjoomaaGreatM2
import Derived.Test.YtkijaghkhjoomaaGreatM3
import Derived.Test.YtkijaghkhjoomaaGreatM4
import Derived.Test.YtkijaghkhjoomaaGreatM5
import Derived.Test.YtkijaghkhjoomaaGreatM6
import Derived.Test.YtkijaghkhjoomaaGreatM7
import Derived.Test.YtkijaghkhjoomaaGreatM8
import Derived.Test.YtkijaghkhjoomaaGreatM9
import Derived.Test.YtkijaghkhjoomaaGreatM10
import Derived.Test.YtkijaghkhjoomaaGreatM11
import Derived.Test.YtkijaghkhjoomaaGreatM12
import Derived.Test.YtkijaghkhjoomaaGreatM13
section
namespace Go.AL
open Go Go.RowKit
set_option maxRecDepth 4000
theorem dropEv_asg (S : Int → Bool) (e : Ev) : (dropEv S e).asg = e.asg ∧ (dropEv S e).time = e.time := by
  unfold dropEv; split <;> exact ⟨rfl, rfl⟩
theorem foldl_asg (S : Int → Bool) : ∀ (l : List Ev) (s : List Int), (l.map (dropEv S)).foldl (fun s e => assignL s e.asg) s = l.foldl (fun s e => assignL s e.asg) s
  | [], _ => rfl
  | e :: r, s => by simp only [List.map_cons, List.foldl_cons, (dropEv_asg S e).1]; exact foldl_asg S r _
theorem zip_snd {α β : Type} : ∀ (a : List α) (b : List β), a.length = b.length → (a.zip b).map (·.2) = b
  | [], [], _ => rfl
  | x :: a, y :: b, h => by simp only [List.zip_cons_cons, List.map_cons]; rw [zip_snd a b (by simpa using h)]
theorem stateAt_drop (S : Int → Bool) (x : Pr) (n k : Nat) : stateAt (dropP S x n) k = stateAt x (n + k) := by
  have h0 : (dropP S x n).vars.map (·.2) = stateAt x n := zip_snd _ _ (by rw [List.length_map, stateAt_length])
  show ((dropP S x n).evs.take k).foldl _ ((dropP S x n).vars.map (·.2)) = _
  rw [h0]
  show (((x.evs.drop n).map (dropEv S)).take k).foldl _ _ = _
  rw [← List.map_take, foldl_asg]
  unfold stateAt
  rw [← List.foldl_append, ← List.take_add]
theorem dropP_vars (S : Int → Bool) (x : Pr) (n : Nat) : (dropP S x n).vars.map (·.1) = x.vars.map (·.1) ∧ (dropP S x n).vars.length = x.vars.length ∧ (dropP S x n).name = x.name ∧ (dropP S x n).evs.length = x.evs.length - n := by
  have hl : (x.vars.map (·.1)).length = (stateAt x n).length := by rw [List.length_map, stateAt_length]
  refine ⟨?_, ?_, rfl, ?_⟩
  · show ((x.vars.map (·.1)).zip (stateAt x n)).map (·.1) = _
    rw [List.map_fst_zip (by omega)]
  · show ((x.vars.map (·.1)).zip (stateAt x n)).length = _
    rw [List.length_zip, ← hl, List.length_map]; omega
  · show ((x.evs.drop n).map _).length = _
    rw [List.length_map, List.length_drop]
theorem dropF_length {ps : List Pr} {c : List Int} (h : c.length = ps.length) : (dropF ps c).length = ps.length := by
  unfold dropF dropS; rw [List.length_map, List.length_zip]; omega
theorem dropF_get? {ps : List Pr} {c : List Int} (h : c.length = ps.length) {p : Nat} (hp : p < ps.length) : (dropF ps c)[p]? = some (dropP (sentB ps c) ps[p] (c[p]'(by omega)).toNat) := by
  unfold dropF dropS
  rw [List.getElem?_map, (List.getElem?_zip_eq_some (z := (ps[p], c[p]'(by omega)))).2 ⟨List.getElem?_eq_getElem hp, List.getElem?_eq_getElem (by omega)⟩]
  rfl
theorem dropF_get {ps : List Pr} {c : List Int} (h : c.length = ps.length) {p : Nat} (hp : p < ps.length) (hp' : p < (dropF ps c).length) : (dropF ps c)[p] = dropP (sentB ps c) ps[p] (c[p]'(by omega)).toNat :=
  Option.some.inj (by rw [← List.getElem?_eq_getElem hp', dropF_get? h hp])
theorem fstF_zero {f : Nat → Int} {n : Nat} (h : fstF f n = 0) : ∀ i, i < n → f i = 0 := by
  intro i
  induction i using Nat.strongRecOn with
  | _ i ih =>
    intro hi
    by_cases h0 : f i = 0
    · exact h0
    · rw [fstF_hit hi (fun j hj => ih j hj (by omega)) h0] at h; exact h
theorem assignL_small : ∀ (l : List (Int × Int)) (s : List Int), (∀ y ∈ s, smallV y) → (∀ a ∈ l, smallV a.2) → ∀ y ∈ assignL s l, smallV y
  | [], s, hs, _ => hs
  | a :: r, s, hs, hl => by
    show ∀ y ∈ assignL (s.set a.1.toNat a.2) r, smallV y
    refine assignL_small r _ (fun y hy => ?_) fun b hb => hl b (List.mem_cons_of_mem _ hb)
    rcases List.mem_or_eq_of_mem_set hy with hy | rfl
    · exact hs y hy
    · exact hl a List.mem_cons_self
theorem foldl_small : ∀ (es : List Ev) (s : List Int), (∀ y ∈ s, smallV y) → (∀ e ∈ es, ∀ a ∈ e.asg, smallV a.2) → ∀ y ∈ es.foldl (fun s e => assignL s e.asg) s, smallV y
  | [], _s, hs, _ => hs
  | e :: r, s, hs, hl => foldl_small r _ (assignL_small e.asg s hs (hl e List.mem_cons_self)) fun x hx => hl x (List.mem_cons_of_mem _ hx)
theorem procF_of_valid {ps : List Pr} (h : validF ps = true) {p : Nat} (hp : p < ps.length) : procF ps p = 0 := by
  have h0 := (valid_parts h).1
  unfold procFirst at h0
  rw [Option.map_eq_none_iff, List.find?_eq_none] at h0
  simpa using h0 p (List.mem_range.2 hp)
theorem procF_parts {ps : List Pr} {p : Nat} (hp : p < ps.length) : procF ps p = 0 ↔ (nameOk ps[p].name = true ∧ (ps.take p).any (fun y => decide (y.name = ps[p].name)) = false) ∧ ps[p].vars.length ≤ 8 ∧ (∀ i, i < ps[p].vars.length → varF ps[p].vars i = 0) ∧ ps[p].evs.length ≤ 64 := by
  have e : procF ps p = if !nameOk ps[p].name || (ps.take p).any (fun y => decide (y.name = ps[p].name)) then 13 else if 8 < ps[p].vars.length then 5 else
      if fstF (varF ps[p].vars) ps[p].vars.length ≠ 0 then fstF (varF ps[p].vars) ps[p].vars.length else if 64 < ps[p].evs.length then 5 else 0 := by
    unfold procF; simp only [List.getElem?_eq_getElem hp]
  rw [e]
  constructor
  · intro h
    split at h
    · cases h
    · rename_i h1
      split at h
      · cases h
      · split at h
        · rename_i h3; exact absurd h h3
        · rename_i h3
          split at h
          · cases h
          · simp only [Bool.or_eq_true, Bool.not_eq_true', not_or, Bool.not_eq_true] at h1
            exact ⟨⟨by simpa using h1.1, h1.2⟩, by omega, fstF_zero (by simpa using h3), by omega⟩
  · rintro ⟨⟨h1, h2⟩, h3, h4, h5⟩
    rw [if_neg (by rw [h1, h2]; decide), if_neg (by omega), if_neg (by rw [fstF_none h4]; decide), if_neg (by omega)]
theorem varF_parts {vs : List (ByteArray × Int)} {i : Nat} (hi : i < vs.length) : varF vs i = 0 ↔ (nameOk vs[i].1 = true ∧ (vs.take i).any (fun w => decide (w.1 = vs[i].1)) = false) ∧ smallV vs[i].2 := by
  have e : varF vs i = if !nameOk vs[i].1 || (vs.take i).any (fun w => decide (w.1 = vs[i].1)) then 13 else if !inI vs[i].2 (-1073741824) 1073741824 then 2 else 0 := by
    unfold varF; simp only [List.getElem?_eq_getElem hi]
  rw [e]
  constructor
  · intro h
    split at h
    · cases h
    · rename_i h1
      split at h
      · cases h
      · rename_i h2
        simp only [Bool.or_eq_true, Bool.not_eq_true', not_or, Bool.not_eq_true] at h1
        refine ⟨⟨by simpa using h1.1, h1.2⟩, ?_⟩
        simp only [inI, Bool.not_eq_true', Bool.not_eq_false, Bool.and_eq_true, decide_eq_true_eq] at h2
        exact h2
  · rintro ⟨⟨h1, h2⟩, h3⟩
    rw [if_neg (by rw [h1, h2]; decide), if_neg]
    simp only [inI, Bool.not_eq_true', Bool.not_eq_false, Bool.and_eq_true, decide_eq_true_eq]
    exact h3
theorem evF_parts {ps : List Pr} {p : Nat} (hp : p < ps.length) {i : Nat} (hi : i < ps[p].evs.length) : evF ps p i = 0 ↔ formedI ps.length p ps[p].evs[i] = true ∧ (0 ≤ ps[p].evs[i].time ∧ ps[p].evs[i].time ≤ 1099511627776 ∧ lastT ps[p].evs i ≤ ps[p].evs[i].time) ∧
    ps[p].evs[i].asg.length ≤ 8 ∧ ∀ k, k < ps[p].evs[i].asg.length → asgF ps[p].vars.length ps[p].evs[i].asg k = 0 := by
  have e : evF ps p i = if !formedI ps.length p ps[p].evs[i] then 3 else if !inI ps[p].evs[i].time 0 1099511627776 || decide (ps[p].evs[i].time < lastT ps[p].evs i) then 11 else if 8 < ps[p].evs[i].asg.length then 5 else fstF (asgF ps[p].vars.length ps[p].evs[i].asg) ps[p].evs[i].asg.length := by
    unfold evF; simp only [List.getElem?_eq_getElem hp, List.getElem?_eq_getElem hi]
  rw [e]
  constructor
  · intro h
    split at h
    · cases h
    · rename_i h1
      split at h
      · cases h
      · rename_i h2
        split at h
        · cases h
        · simp only [inI, Bool.or_eq_true, Bool.not_eq_true', not_or, Bool.not_eq_false, Bool.and_eq_true, decide_eq_true_eq] at h2
          exact ⟨by simpa using h1, ⟨h2.1.1, h2.1.2, by omega⟩, by omega, fstF_zero h⟩
  · rintro ⟨h1, ⟨h2, h3, h4⟩, h5, h6⟩
    rw [if_neg (by rw [h1]; decide), if_neg (by simp only [inI, Bool.or_eq_true, Bool.not_eq_true', not_or, Bool.not_eq_false, Bool.and_eq_true, decide_eq_true_eq]; omega), if_neg (by omega), fstF_none h6]
theorem evF_of_valid {ps : List Pr} (h : validF ps = true) {p : Nat} (hp : p < ps.length) {i : Nat} (hi : i < ps[p].evs.length) : evF ps p i = 0 := evFirst_get (valid_parts h).2.1 hp hi
theorem state_small {ps : List Pr} (h : validF ps = true) {p : Nat} (hp : p < ps.length) (k : Nat) : ∀ y ∈ stateAt ps[p] k, smallV y := by
  obtain ⟨_, _, hv, _⟩ := (procF_parts hp).1 (procF_of_valid h hp)
  refine foldl_small _ _ (fun y hy => ?_) fun e he a ha => ?_
  · obtain ⟨v, hv', rfl⟩ := List.mem_map.1 hy
    obtain ⟨i, hi, rfl⟩ := List.getElem_of_mem hv'
    exact ((varF_parts hi).1 (hv i hi)).2
  · obtain ⟨i, hi, rfl⟩ := List.getElem_of_mem (List.mem_of_mem_take he)
    obtain ⟨j, hj, rfl⟩ := List.getElem_of_mem ha
    have := asgF_of_valid h p hp i hi j hj
    unfold asgF at this
    simp only [List.getElem?_eq_getElem hj] at this
    split at this
    · cases this
    · rename_i hn
      simp only [inI, Bool.or_eq_true, Bool.not_eq_true', not_or, Bool.not_eq_false, Bool.and_eq_true, decide_eq_true_eq] at hn
      exact hn.2
theorem valid_of {ps : List Pr} (h0 : 1 ≤ ps.length ∧ ps.length ≤ 8) (h1 : ∀ p, p < ps.length → procF ps p = 0) (h2 : ∀ p (hp : p < ps.length) i, i < ps[p].evs.length → evF ps p i = 0) (h3 : msgF ps = none) (h4 : cycF ps = none) : validF ps = true := by
  have e1 : procFirst ps = none := procFirst_none h1
  have e2 : evFirst ps = none := evFirst_none fun j y hy => by
    obtain ⟨p, hp, i, hi, _, rfl⟩ := evIds_inv hy
    have := h2 p hp i hi
    simpa [evAt, show ((i : Int) + 1 - 1).toNat = i by omega] using this
  unfold validF faultF
  rw [e1, e2, h3, h4, if_neg (by simp only [inI, Bool.not_eq_true', Bool.not_eq_false, Bool.and_eq_true, decide_eq_true_eq]; omega)]
  rfl
section
variable {ps : List Pr} {c : List Int}
/-- An event of the dropped trace is one of the trace, further on. -/
theorem drop_ev (hc : c.length = ps.length) {p : Nat} (hp' : p < (dropF ps c).length) {i : Nat} (hi' : i < (dropF ps c)[p].evs.length) :
    ∃ (hp : p < ps.length) (hpc : p < c.length) (hi : c[p].toNat + i < ps[p].evs.length), (dropF ps c)[p].evs[i] = dropEv (sentB ps c) ps[p].evs[c[p].toNat + i] := by
  have hp : p < ps.length := by rw [dropF_length hc] at hp'; exact hp'
  have hg := dropF_get hc hp hp'
  have hi : (c[p]'(by omega)).toNat + i < ps[p].evs.length := by
    have := hi'
    rw [hg, (dropP_vars _ _ _).2.2.2] at this
    omega
  refine ⟨hp, by omega, hi, Option.some.inj ?_⟩
  rw [← List.getElem?_eq_getElem hi', hg]
  show ((ps[p].evs.drop _).map (dropEv (sentB ps c)))[i]? = _
  rw [List.getElem?_map, List.getElem?_drop, List.getElem?_eq_getElem hi]; rfl
theorem drop_len (hc : c.length = ps.length) {p : Nat} (hp : p < ps.length) : ∃ (hp' : p < (dropF ps c).length) (hpc : p < c.length), (dropF ps c)[p].evs.length = ps[p].evs.length - c[p].toNat ∧ (dropF ps c)[p].vars.length = ps[p].vars.length ∧ (dropF ps c)[p].name = ps[p].name ∧
    (dropF ps c)[p].vars.map (·.1) = ps[p].vars.map (·.1) ∧ ∀ k, stateAt (dropF ps c)[p] k = stateAt ps[p] (c[p].toNat + k) := by
  have hp' : p < (dropF ps c).length := by rw [dropF_length hc]; exact hp
  have hpc : p < c.length := by omega
  obtain ⟨h1, h2, h3, h4⟩ := dropP_vars (sentB ps c) ps[p] c[p].toNat
  refine ⟨hp', hpc, ?_⟩
  rw [dropF_get hc hp hp']
  exact ⟨h4, h2, h3, h1, fun k => stateAt_drop _ _ _ _⟩
theorem dropEv_kind {S : Int → Bool} {e : Ev} : ((dropEv S e).kind = 2 → e.kind = 2) ∧ ((dropEv S e).kind = 3 → e.kind = 3 ∧ S e.msg = false) ∧ ((dropEv S e).kind ≠ 1 → dropEv S e = e) ∧ (e.kind = 2 → dropEv S e = e) ∧ (e.kind = 3 → S e.msg = false → dropEv S e = e) := by
  unfold dropEv
  split
  · rename_i h
    exact ⟨fun h' => by simp at h', fun h' => by simp at h', fun h' => by simp at h', fun h' => by omega, fun _ h' => by rw [h.2] at h'; cases h'⟩
  · rename_i h
    refine ⟨id, fun h' => ⟨h', ?_⟩, fun _ => rfl, fun _ => rfl, fun _ _ => rfl⟩
    cases hS : S e.msg
    · rfl
    · exact absurd ⟨h', hS⟩ h
theorem recv_sends (hm : msgF ps = none) {p : Nat} (hp : p < ps.length) {i : Nat} (hi : i < ps[p].evs.length) (hk : ps[p].evs[i].kind = 3) : sendsB ps ps[p].evs[i].peer ps[p].evs[i].msg (p : Int) = true := by
  have hev := evIds_get hp hi
  have hlt : off ps p + i < (evIds ps).length := (List.getElem?_eq_some_iff.1 hev).1
  have hpz : pairF ps (off ps p + i) = 0 := by
    unfold msgF at hm
    split at hm
    · cases hm
    · rename_i hn
      rw [List.find?_eq_none] at hn
      simpa using hn _ (List.mem_range.2 hlt)
  unfold pairF at hpz
  rw [hev] at hpz
  simp only at hpz
  rw [if_neg (by omega), if_pos hk] at hpz
  split at hpz
  · cases hpz
  · split at hpz
    · cases hpz
    · rename_i hs; simpa using hs
/-- The two events of the dropped trace with a number are one. -/
theorem drop_unique (hm : msgF ps = none) (hc : c.length = ps.length) {p q i j : Nat} (hp' : p < (dropF ps c).length) (hi' : i < (dropF ps c)[p].evs.length) (hq' : q < (dropF ps c).length) (hj' : j < (dropF ps c)[q].evs.length)
    (hk : (dropF ps c)[p].evs[i].kind = 2 ∨ (dropF ps c)[p].evs[i].kind = 3) (he : (dropF ps c)[p].evs[i].kind = (dropF ps c)[q].evs[j].kind) (hmsg : (dropF ps c)[p].evs[i].msg = (dropF ps c)[q].evs[j].msg) : p = q ∧ i = j := by
  obtain ⟨hp, hpc, hi, e1⟩ := drop_ev hc hp' hi'
  obtain ⟨hq, hqc, hj, e2⟩ := drop_ev hc hq' hj'
  rw [e1] at hk he hmsg; rw [e2] at he hmsg
  obtain ⟨_, _, k1, _, _⟩ := dropEv_kind (S := sentB ps c) (e := ps[p].evs[c[p].toNat + i])
  obtain ⟨_, _, k2, _, _⟩ := dropEv_kind (S := sentB ps c) (e := ps[q].evs[c[q].toNat + j])
  have n1 : (dropEv (sentB ps c) ps[p].evs[c[p].toNat + i]).kind ≠ 1 := fun h => by rcases hk with h' | h' <;> rw [h] at h' <;> exact absurd h' (by decide)
  have n2 : (dropEv (sentB ps c) ps[q].evs[c[q].toNat + j]).kind ≠ 1 := fun h => n1 (he.trans h)
  rw [k2 n2] at he hmsg
  rw [k1 n1] at he hmsg hk
  have u1 := pair_unique hm hp hi hk
  have u2 := pair_unique hm hq hj (he ▸ hk)
  rw [he, hmsg, u2, Prod.mk.injEq] at u1
  have : q = p := by omega
  subst this
  exact ⟨rfl, by omega⟩
theorem drop_msgF (hm : msgF ps = none) (hc : c.length = ps.length) (hr : inRangeF ps c = true) : msgF (dropF ps c) = none := by
  refine pairF_zero fun p hp' i hi' => ?_
  have hev := evIds_get hp' hi'
  obtain ⟨hp, hpc, hi, e1⟩ := drop_ev hc hp' hi'
  have hfst : ∀ kind, (kind = 2 ∨ kind = 3) → (dropF ps c)[p].evs[i].kind = kind → ¬ 0 < (findIn ((evIds (dropF ps c)).take (off (dropF ps c) p + i)) kind (dropF ps c)[p].evs[i].msg).2 := fun kind hk2 hk h => by
    obtain ⟨e, hm', h1, h2⟩ := findIn_mem h
    obtain ⟨n, hn, hne⟩ := List.getElem_of_mem hm'
    rw [List.length_take] at hn
    rw [List.getElem_take] at hne
    obtain ⟨q, hq', j, hj', hnq, he⟩ := evIds_inv (List.getElem?_eq_getElem (show n < (evIds (dropF ps c)).length by omega))
    rw [hne] at he
    obtain ⟨_, rfl⟩ := Prod.mk.inj he
    obtain ⟨e2, e3⟩ := drop_unique hm hc hp' hi' hq' hj' (by omega) (by omega) h2.symm
    subst e2; subst e3
    omega
  unfold pairF
  rw [hev]
  simp only
  by_cases k2 : (dropF ps c)[p].evs[i].kind = 2
  · rw [if_pos k2, if_neg (hfst 2 (.inl rfl) k2)]
  by_cases k3 : (dropF ps c)[p].evs[i].kind = 3
  · rw [if_neg k2, if_pos k3, if_neg (hfst 3 (.inr rfl) k3), if_neg]
    have hd := dropEv_kind (S := sentB ps c) (e := ps[p].evs[c[p].toNat + i])
    rw [e1] at k3
    obtain ⟨o3, oS⟩ := hd.2.1 k3
    have oe := hd.2.2.2.2 o3 oS
    rw [e1, oe]
    have hss := recv_sends hm hp hi o3
    obtain ⟨hqc, hst⟩ := sent_iff hm hc hp hi o3
    obtain ⟨hq, j0, hj0, s1, s2, s3⟩ := recv_peer hm hp hi o3
    rw [oS, s1] at hst
    have hlt : c[ps[p].evs[c[p].toNat + i].peer.toNat] < (j0 : Int) + 1 := by
      have := hst.symm
      rw [decide_eq_false_iff_not] at this
      simpa using this
    obtain ⟨hr1, hr2⟩ := inRangeF_get hr hc hq
    have hsn : ∃ e, ps[ps[p].evs[c[p].toNat + i].peer.toNat].evs[j0] = e ∧ e.peer = p := by
      unfold sendsB at hss
      rw [List.getElem?_eq_getElem hq] at hss
      obtain ⟨e, he, h1⟩ := List.any_eq_true.1 hss
      obtain ⟨j1, hj1, rfl⟩ := List.getElem_of_mem he
      simp only [Bool.and_eq_true, decide_eq_true_iff] at h1
      have u1 := pair_unique hm hq hj1 (.inl h1.1.1)
      have u2 := pair_unique hm hq hj0 (.inl s2)
      rw [h1.1.1, h1.1.2] at u1
      rw [s2, s3, u1, Prod.mk.injEq] at u2
      have : j1 = j0 := by omega
      subst this
      exact ⟨_, rfl, h1.2⟩
    obtain ⟨e, he, hep⟩ := hsn
    obtain ⟨hq', hqc2, l1, _⟩ := drop_len hc hq
    have hjn : j0 - c[ps[p].evs[c[p].toNat + i].peer.toNat].toNat < (dropF ps c)[ps[p].evs[c[p].toNat + i].peer.toNat].evs.length := by omega
    have hsb : sendsB (dropF ps c) ps[p].evs[c[p].toNat + i].peer ps[p].evs[c[p].toNat + i].msg (p : Int) = true := by
      unfold sendsB
      rw [List.getElem?_eq_getElem hq']
      simp only
      rw [List.any_eq_true]
      refine ⟨_, List.getElem_mem hjn, ?_⟩
      obtain ⟨_, _, hx, e4⟩ := drop_ev hc hq' hjn
      rw [e4]
      have idx : c[ps[p].evs[c[p].toNat + i].peer.toNat].toNat + (j0 - c[ps[p].evs[c[p].toNat + i].peer.toNat].toNat) = j0 := by omega
      simp only [idx]
      have hd2 := dropEv_kind (S := sentB ps c) (e := ps[ps[p].evs[c[p].toNat + i].peer.toNat].evs[j0])
      rw [hd2.2.2.2.1 s2]
      simp only [Bool.and_eq_true, decide_eq_true_iff]
      exact ⟨⟨s2, s3⟩, by rw [he]; exact hep⟩
    rw [hsb]; decide
  · rw [if_neg k2, if_neg k3]
theorem shE_nat {c : List Int} {p : Nat} (hpc : p < c.length) (h0 : 0 ≤ c[p]) (i : Nat) : shE c ((p : Int), (i : Int) + 1) = ((p : Int), ((c[p].toNat + i : Nat) : Int) + 1) := by
  unfold shE
  simp only [Int.toNat_natCast, List.getD_eq_getElem?_getD, List.getElem?_eq_getElem hpc, Option.getD_some]
  rw [Prod.mk.injEq]; exact ⟨rfl, by omega⟩
theorem drop_nx (hm : msgF ps = none) (hc : c.length = ps.length) (hr : inRangeF ps c = true) {x y : Eid} (hx : VEv (dropF ps c) x) (h : Nx (dropF ps c) x y) : Nx ps (shE c x) (shE c y) := by
  obtain ⟨p, hp', i, hi', rfl⟩ := hx
  obtain ⟨hp, hpc, hi, e1⟩ := drop_ev hc hp' hi'
  obtain ⟨hr1, hr2⟩ := inRangeF_get hr hc hp
  unfold Nx afterL at h
  simp only [Int.toNat_natCast, List.getElem?_eq_getElem hp', show ((i : Int) + 1 - 1).toNat = i by omega, List.getElem?_eq_getElem hi', List.mem_append] at h
  rw [shE_nat hpc hr1]
  unfold Nx afterL
  simp only [Int.toNat_natCast, List.getElem?_eq_getElem hp, show (((c[p].toNat + i : Nat) : Int) + 1 - 1).toNat = c[p].toNat + i by omega, List.getElem?_eq_getElem hi, List.mem_append]
  obtain ⟨_, _, l1, _⟩ := drop_len hc hp
  rcases h with h | h
  · split at h
    · rename_i hlt
      simp only [List.mem_singleton] at h
      subst h
      refine .inl ?_
      rw [if_pos (by omega)]
      simp only [List.mem_singleton]
      rw [show ((i : Int) + 1 + 1) = ((i + 1 : Nat) : Int) + 1 by omega, shE_nat hpc hr1, Prod.mk.injEq]
      exact ⟨rfl, by omega⟩
    · cases h
  · split at h
    · rename_i hcd
      simp only [List.mem_singleton] at h
      subst h
      obtain ⟨q, hq', j, hj', u1, u2, u3⟩ := findIn_some hcd.2
      obtain ⟨hq, hqc, hj, e2⟩ := drop_ev hc hq' hj'
      obtain ⟨hs1, hs2⟩ := inRangeF_get hr hc hq
      have d1 := dropEv_kind (S := sentB ps c) (e := ps[p].evs[c[p].toNat + i])
      have d2 := dropEv_kind (S := sentB ps c) (e := ps[q].evs[c[q].toNat + j])
      rw [e1] at hcd u1 u3
      rw [e2] at u2 u3
      have k1 := d1.1 hcd.1
      obtain ⟨k2, kS⟩ := d2.2.1 u2
      rw [d1.2.2.2.1 k1] at u1 u3 hcd
      rw [d2.2.2.2.2 k2 kS] at u3
      have hu := pair_unique hm hq hj (.inr k2)
      rw [k2, u3] at hu
      refine .inr ?_
      rw [if_pos ⟨k1, by rw [hu]; show (0 : Int) < _; omega⟩]
      simp only [List.mem_singleton]
      rw [e1, d1.2.2.2.1 k1, u1, shE_nat hqc hs1, hu]
    · cases h
theorem drop_reach (hm : msgF ps = none) (hc : c.length = ps.length) (hr : inRangeF ps c = true) {x y : Eid} (hx : VEv (dropF ps c) x) (h : Reach (dropF ps c) x y) : Reach ps (shE c x) (shE c y) := by
  induction h with
  | single h => exact .single (drop_nx hm hc hr hx h)
  | tail h1 h2 ih => exact .tail ih (drop_nx hm hc hr (Reach.valid h1 hx) h2)
theorem drop_cyc (hv : validF ps = true) (hc : c.length = ps.length) (hr : inRangeF ps c = true) : cycF (dropF ps c) = none := by
  refine cycF_none fun j y hj h => ?_
  obtain ⟨p, hp', i, hi', _, rfl⟩ := evIds_inv hj
  have h := drop_reach (valid_parts hv).2.2 hc hr ⟨p, hp', i, hi', rfl⟩ h
  obtain ⟨hp, hpc, hi, _⟩ := drop_ev hc hp' hi'
  obtain ⟨hr1, hr2⟩ := inRangeF_get hr hc hp
  rw [shE_nat hpc hr1] at h
  have h0 := valid_cyc hv
  unfold cycF at h0
  rw [Option.map_eq_none_iff, List.find?_eq_none] at h0
  exact absurd h (by simpa using h0 _ (List.mem_of_getElem? (evIds_get hp hi)))
theorem drop_valid (hv : validF ps = true) (hc : c.length = ps.length) (hr : inRangeF ps c = true) : validF (dropF ps c) = true := by
  have hl := dropF_length hc
  have hm := (valid_parts hv).2.2
  have h18 : 1 ≤ ps.length ∧ ps.length ≤ 8 := by
    have := hv
    unfold validF faultF at this
    simp only [decide_eq_true_eq] at this
    split at this
    · cases this
    · rename_i h
      simp only [inI, Bool.not_eq_true', Bool.not_eq_false, Bool.and_eq_true, decide_eq_true_eq] at h
      omega
  refine valid_of (by omega) (fun p hp' => ?_) (fun p hp' i hi' => ?_) (drop_msgF hm hc hr) (drop_cyc hv hc hr)
  · have hp : p < ps.length := by omega
    obtain ⟨_, hpc, l1, l2, l3, l4, l5⟩ := drop_len hc hp
    obtain ⟨⟨n1, n2⟩, n3, n4, n5⟩ := (procF_parts hp).1 (procF_of_valid hv hp)
    refine (procF_parts hp').2 ⟨⟨by rw [l3]; exact n1, ?_⟩, by omega, fun i hi => ?_, by omega⟩
    · rw [l3, List.any_eq_false]
      intro y hy
      obtain ⟨q, hq, rfl⟩ := List.getElem_of_mem hy
      rw [List.length_take] at hq
      have hqp : q < ps.length := by omega
      obtain ⟨hq', _, _, _, m3, _⟩ := drop_len hc hqp
      rw [List.getElem_take, m3]
      rw [List.any_eq_false] at n2
      refine n2 ps[q] (List.mem_of_getElem? (i := q) ?_)
      rw [List.getElem?_take, if_pos (by omega), List.getElem?_eq_getElem hqp]
    · have hiv : i < ps[p].vars.length := by omega
      have hg1 : ∀ j (hj : j < (dropF ps c)[p].vars.length) (hj2 : j < ps[p].vars.length), (dropF ps c)[p].vars[j].1 = ps[p].vars[j].1 := fun j hj hj2 => by
        have := congrArg (·[j]?) l4
        simp only [List.getElem?_map, List.getElem?_eq_getElem hj, List.getElem?_eq_getElem hj2, Option.map_some, Option.some.injEq] at this
        exact this
      obtain ⟨⟨v1, v2⟩, v3⟩ := (varF_parts hiv).1 (n4 i hiv)
      refine (varF_parts hi).2 ⟨⟨by rw [hg1 i hi hiv]; exact v1, ?_⟩, ?_⟩
      · rw [hg1 i hi hiv, List.any_eq_false]
        intro y hy
        obtain ⟨q, hq, rfl⟩ := List.getElem_of_mem hy
        rw [List.length_take] at hq
        rw [List.getElem_take, hg1 q (by omega) (by omega)]
        rw [List.any_eq_false] at v2
        refine v2 ps[p].vars[q] (List.mem_of_getElem? (i := q) ?_)
        rw [List.getElem?_take, if_pos (by omega), List.getElem?_eq_getElem (by omega)]
      · have hst := l5 0
        rw [Nat.add_zero] at hst
        have h0 : stateAt (dropF ps c)[p] 0 = (dropF ps c)[p].vars.map (·.2) := by simp [stateAt]
        refine state_small hv hp c[p].toNat _ ?_
        rw [← hst, h0]
        exact List.mem_map.2 ⟨_, List.getElem_mem hi, rfl⟩
  · obtain ⟨hp, hpc, hi, e1⟩ := drop_ev hc hp' hi'
    obtain ⟨_, _, l1, l2, _⟩ := drop_len hc hp
    obtain ⟨f1, f2, f3, f4⟩ := (evF_parts hp hi).1 (evF_of_valid hv hp hi)
    obtain ⟨d1, d2⟩ := dropEv_asg (sentB ps c) ps[p].evs[c[p].toNat + i]
    refine (evF_parts hp' hi').2 ⟨?_, ⟨by rw [e1, d2]; exact f2.1, by rw [e1, d2]; exact f2.2.1, ?_⟩, by rw [e1, d1]; exact f3, fun k hk => ?_⟩
    · rw [e1, hl]
      unfold dropEv
      split
      · rfl
      · exact f1
    · rw [e1, d2]
      unfold lastT
      split
      · exact f2.1
      · rename_i hi0
        obtain ⟨_, _, hi1, e2⟩ := drop_ev hc hp' (i := i - 1) (by omega)
        rw [List.getElem?_eq_getElem (show i - 1 < (dropF ps c)[p].evs.length by omega)]
        simp only
        rw [e2, (dropEv_asg _ _).2]
        have := f2.2.2
        unfold lastT at this
        rw [if_neg (by omega), show c[p].toNat + i - 1 = c[p].toNat + (i - 1) by omega, List.getElem?_eq_getElem hi1] at this
        exact this
    · rw [e1, d1] at hk
      rw [e1, d1, l2]
      exact f4 k hk
end
end Go.AL
end
section
namespace Go.AL
open Go Go.RowKit
set_option maxRecDepth 4000
theorem fillZ_set {l : List Int} {n i : Nat} (hl : l.length = n) (hi : i < n) : (fillZ l n i).set i (l[i]'(by omega)) = fillZ l n (i + 1) := by
  unfold fillZ
  have e : n - i = (n - (i + 1)) + 1 := by omega
  rw [List.set_append_right _ _ (by rw [List.length_take]; omega), List.length_take, show i - min i l.length = 0 by omega, e, List.replicate_succ, List.set_cons_zero, List.take_succ_eq_append_getElem (by omega), List.append_assoc]
  rfl
theorem fillZ_zero (l : List Int) (n : Nat) : fillZ l n 0 = List.replicate n 0 := by unfold fillZ; simp
theorem fillZ_full {l : List Int} {n : Nat} (h : l.length = n) : fillZ l n n = l := by unfold fillZ; subst h; simp
theorem fillZ_length {l : List Int} {n i : Nat} (hl : l.length = n) (hi : i ≤ n) : (fillZ l n i).length = n := by unfold fillZ; rw [List.length_append, List.length_take, List.length_replicate]; omega
theorem map_set_ai (l : List Int) (i : Nat) (v : Int) : (l.map ai).set i (ai v) = (l.set i v).map ai := by rw [List.map_set]
theorem replicate_ai (n : Nat) : (List.replicate n (0 : Int)).map ai = List.replicate n (ai 0) := by rw [List.map_replicate]
theorem givenL {ps : List Pr} {l : List (List Int)} : givenF ps l [] = 0 ↔ (validF ps = true ∧ ∀ c ∈ l, c.length = ps.length) ∧ (∀ c ∈ l, inRangeF ps c = true) ∧ ∀ c ∈ l, closedF ps c = true := by
  have h1 : sizedF ps l = true ↔ validF ps = true ∧ ∀ c ∈ l, c.length = ps.length := by
    refine ⟨sizedF_inv, fun h => ?_⟩
    unfold sizedF
    rw [h.1, Bool.true_and, Bool.not_eq_true', List.any_eq_false]
    intro c hc
    rw [decide_eq_true (h.2 c hc)]; decide
  have h2 := List.all_eq_true (l := l) (p := inRangeF ps)
  have h3 := List.all_eq_true (l := l) (p := closedF ps)
  rw [← h1, ← h2, ← h3]
  unfold givenF
  cases sizedF ps l <;> cases l.all (inRangeF ps) <;> cases l.all (closedF ps) <;> simp
theorem given2 {ps : List Pr} {a b : List Int} (h : givenF ps [a, b] [] = 0) : givenF ps [a] [] = 0 ∧ givenF ps [b] [] = 0 := by
  rw [givenL] at h
  refine ⟨givenL.2 ⟨⟨h.1.1, fun c hc => h.1.2 c ?_⟩, fun c hc => h.2.1 c ?_, fun c hc => h.2.2 c ?_⟩, givenL.2 ⟨⟨h.1.1, fun c hc => h.1.2 c ?_⟩, fun c hc => h.2.1 c ?_, fun c hc => h.2.2 c ?_⟩⟩ <;> (simp at hc; simp [hc])
theorem given1 {ps : List Pr} {a b : List Int} (h1 : givenF ps [a] [] = 0) (h2 : givenF ps [b] [] = 0) : givenF ps [a, b] [] = 0 := by
  rw [givenL] at *
  refine ⟨⟨h1.1.1, fun c hc => ?_⟩, fun c hc => ?_, fun c hc => ?_⟩ <;> (rcases List.mem_cons.1 hc with rfl | hc)
  · exact h1.1.2 _ (by simp)
  · exact h2.1.2 c hc
  · exact h1.2.1 _ (by simp)
  · exact h2.2.1 c hc
  · exact h1.2.2 _ (by simp)
  · exact h2.2.2 c hc
theorem cut_combine (ps : List Pr) (hs : Sm ps) (a b : List Int) (f : FuncId) (g : Int → Int → Int) (hf : ∀ x y, PC Go.Proofs.Tryz.prog f [ai x, ai y] (ai (g x y))) : PC Go.Proofs.Tryz.prog 63 [aTr ps, aInts a, aInts b, .v (.func (.func f) #[] #[])] (aComb ps a b g) := by
  have hg := cut_given ps hs [a, b] (by simp) [] (by simp)
  have hsp : aComb ps a b g = if givenF ps [a, b] [] ≠ 0 then .tup [.sl 1 [], ai (givenF ps [a, b] [])] else .tup [aInts (List.zipWith g a b), ai 0] := rfl
  have hgz : givenF ps [a, b] [] = 0 → a.length = ps.length ∧ b.length = ps.length := fun h => ⟨(givenF_zero (given2 h).1).2.1, (givenF_zero (given2 h).2).2.1⟩
  have hpl := hs.procs
  generalize givenF ps [a, b] [] = e at *
  generalize aComb ps a b g = R at *
  refine PC.enter 44 [.tmp 8, .tmp 9] [4, 16] Go.Proofs.Tryz.func63 rfl rfl rfl rfl rfl (by simp) (AWp.of ?_); simp only [go_sem]
  repeat (first | ((with_reducible refine AWp.ofC ?_ ?_); (focus exact rfl); simp only [go_sem]) | ((with_reducible refine an ?_ ?_); focus exact Au))
  refine (PC.view (Vws.cons (.refl _) (Vws.cons (.refl _) (Vws.cons (.nil 1) .nil))) hg (Own.v _) ?_).val
  simp only [go_sem]
  repeat (first | ((with_reducible refine AWp.ofC ?_ ?_); (focus exact rfl); simp only [go_sem]) | ((with_reducible refine an ?_ ?_); focus exact Au))
  refine ⟨fun h1 => ?_, fun h1 => ?_⟩
  · rw [if_pos h1] at hsp
    repeat (first | ((with_reducible refine AWp.ofC ?_ ?_); (focus exact rfl); simp only [go_sem]) | ((with_reducible refine an ?_ ?_); focus exact Au))
    refine ret_view [] ?_; simp only [go_sem]
    rw [hsp]
    exact .mkTup (Vws.cons (.nil 1) (Vws.refl _))
  rw [if_neg (by simpa using h1)] at hsp
  obtain ⟨ha, hb⟩ := hgz h1
  have hab : b.length = a.length := by omega
  have hzl : (List.zipWith g a b).length = a.length := by rw [List.length_zipWith]; omega
  have hzg : ∀ i (hi : i < a.length), (List.zipWith g a b)[i]? = some (g a[i] (b[i]'(by rw [hab]; exact hi))) := fun i hi => by rw [List.getElem?_eq_getElem (by omega), List.getElem_zipWith]
  generalize List.zipWith g a b = z at *
  repeat (first | ((with_reducible refine AWp.ofC ?_ ?_); (focus exact rfl); simp only [go_sem]) | ((with_reducible refine an ?_ ?_); focus exact Au))
  intro b11
  repeat (first | ((with_reducible refine AWp.ofC ?_ ?_); (focus exact rfl); simp only [go_sem]) | ((with_reducible refine an ?_ ?_); focus exact Au))
  refine AWp.range' a.length [] [1, 2, 3, 11, 25] (fun k vs L => L = [(b11, .row 3 1 ((fillZ z a.length k).map ai) a.length)]) (by omega) rfl rfl rfl (by rw [fillZ_zero, replicate_ai]) ?_ ?_
  · rintro k vs L' hk - rfl
    have hga := getD_map (f := ai) hk
    have hgb := getD_map (f := ai) (l := b) (k := k) (by omega)
    have hfl := fillZ_length (i := k) hzl (by omega)
    have hfs := fillZ_set hzl hk
    obtain ⟨hkz, hzk⟩ := List.getElem?_eq_some_iff.1 (hzg k hk)
    rw [hzk] at hfs
    have hfc := hf a[k] (b[k]'(by rw [hab]; exact hk))
    simp only [go_sem]
    repeat ((with_reducible refine an ?_ ?_); focus exact As)
    refine AWp.of ?_; simp only [go_sem]
    refine AWp.mix mixed [0, 1, 2, 3, 4, 5, 6, 7, 8, 9, 10] (.step 11 (.step 12 (.step 13 .done .done) .done) .done) (by kernel_rfl) ?_; simp only [go_sem, hga, hgb]
    repeat ((with_reducible refine an ?_ ?_); focus exact As)
    refine (hfc).val.use ?_; simp only [go_sem]
    repeat ((with_reducible refine an ?_ ?_); focus exact As)
    have hkf : k < (fillZ z a.length k).length := by omega
    have hgf := getD_map (f := ai) hkf
    refine ⟨_, List.Sublist.refl _, ?_⟩
    rw [← hfs, ← map_set_ai, hgf]
  · rintro vs L' - rfl
    rw [fillZ_full hzl]
    simp only [go_sem]
    repeat (first | ((with_reducible refine AWp.ofC ?_ ?_); (focus exact rfl); simp only [go_sem]) | ((with_reducible refine an ?_ ?_); focus exact Au))
    refine ret_view [true] ?_; simp only [go_sem]
    rw [hsp]
    exact .mkTup (Vws.cons (Vw.ofLs (if_pos rfl) (by simp; omega)) (Vws.refl _))
theorem cut_Join (ps : List Pr) (hs : Sm ps) (a b : List Int) : PC Go.Proofs.Tryz.prog 22 [aTr ps, aInts a, aInts b] (aComb ps a b fun x y => if x < y then y else x) := by
  have hf : ∀ x y, PC Go.Proofs.Tryz.prog 64 [ai x, ai y] (ai (if x < y then y else x)) := fun x y => by
    refine PC.enter 8 [.tmp 4] [] Go.Proofs.Tryz.func64 rfl rfl rfl rfl rfl (by simp) (AWp.of ?_); simp only [go_sem]
    repeat (first | ((with_reducible refine AWp.ofC ?_ ?_); (focus exact rfl); simp only [go_sem]) | ((with_reducible refine an ?_ ?_); focus exact Au))
    refine ret_eq ?_; simp only [go_sem]
  have hc := cut_combine ps hs a b 64 (fun x y => if x < y then y else x) hf
  unfold aComb at *
  generalize givenF ps [a, b] [] = e at *
  generalize (List.zipWith (fun x y => if x < y then y else x) a b) = z at *
  by_cases he : e = 0
  · rw [if_neg (by simpa using he)] at *
    refine PC.enter 14 [.tmp 6, .tmp 7] [3] Go.Proofs.Tryz.func22 rfl rfl rfl rfl rfl (by simp) (AWp.of ?_); simp only [go_sem]
    repeat (first | ((with_reducible refine AWp.ofC ?_ ?_); (focus exact rfl); simp only [go_sem]) | ((with_reducible refine an ?_ ?_); focus exact Au))
    repeat ((with_reducible refine an ?_ ?_); focus exact As)
    refine (hc).val.use ?_; simp only [go_sem]
    repeat (first | ((with_reducible refine AWp.ofC ?_ ?_); (focus exact rfl); simp only [go_sem]) | ((with_reducible refine an ?_ ?_); focus exact Au))
    refine ret_eq ?_; simp only [go_sem]
  · rw [if_pos he] at *
    refine PC.enter 14 [.tmp 6, .tmp 7] [3] Go.Proofs.Tryz.func22 rfl rfl rfl rfl rfl (by simp) (AWp.of ?_); simp only [go_sem]
    repeat (first | ((with_reducible refine AWp.ofC ?_ ?_); (focus exact rfl); simp only [go_sem]) | ((with_reducible refine an ?_ ?_); focus exact Au))
    repeat ((with_reducible refine an ?_ ?_); focus exact As)
    refine (hc).val.use ?_; simp only [go_sem]
    repeat (first | ((with_reducible refine AWp.ofC ?_ ?_); (focus exact rfl); simp only [go_sem]) | ((with_reducible refine an ?_ ?_); focus exact Au))
    refine ret_eq ?_; simp only [go_sem]
end Go.AL
end
section
namespace Go.AL
open Go Go.RowKit
set_option maxRecDepth 4000
theorem shS_take {c d : List Int} {i : Nat} (hc : i < c.length) (hd : i < d.length) : (shS c d).take (i + 1) = (shS c d).take i ++ [c[i] + d[i]] := by
  have : i < (shS c d).length := by unfold shS; rw [List.length_zipWith]; omega
  rw [List.take_succ_eq_append_getElem this]
  congr 2
  simp [shS]
theorem shS_length (c d : List Int) (h : c.length = d.length) : (shS c d).length = c.length := by unfold shS; rw [List.length_zipWith]; omega
theorem inB_get {c : List Int} (h : c.all inB = true) {i : Nat} (hi : i < c.length) : 0 ≤ c[i] ∧ c[i] ≤ 64 := by
  have := List.all_eq_true.1 h _ (List.getElem_mem hi)
  simp only [inB, Bool.and_eq_true, decide_eq_true_iff] at this; exact this
theorem prune_Shift (c d : List Int) (hc : c.length ≤ 1000000) (hd : d.length ≤ 1000000) : PC Go.Proofs.Tryz.prog 49 [aInts c, aInts d] (.tup [aInts (shiftR c d).1, ai (shiftR c d).2]) := by
  have h1 := prune_counts c hc
  have h2 := prune_counts d hd
  have hlen := shS_length c d
  have h3 := prune_counts (shS c d)
  have hsp : shiftR c d = if (!decide (c.length = d.length) || decide (8 < c.length)) = true then ([], 1) else if (!c.all inB || !d.all inB) = true then ([], 2) else if (shS c d).all inB = false then ([], 9) else (shS c d, 0) := rfl
  have hbc : c.all inB = true → ∀ {i : Nat} (hi : i < c.length), 0 ≤ c[i] ∧ c[i] ≤ 64 := fun h _ hi => inB_get h hi
  have hbd : d.all inB = true → ∀ {i : Nat} (hi : i < d.length), 0 ≤ d[i] ∧ d[i] ≤ 64 := fun h _ hi => inB_get h hi
  generalize shiftR c d = R at *
  generalize c.all inB = b1 at *
  generalize d.all inB = b2 at *
  refine PC.enter 50 [.tmp 4, .tmp 5] [43] Go.Proofs.Tryz.func49 rfl rfl rfl rfl rfl (by simp) (AWp.of ?_); simp only [go_sem]
  repeat (first | ((with_reducible refine AWp.ofC ?_ ?_); (focus exact rfl); simp only [go_sem]) | ((with_reducible refine an ?_ ?_); focus exact Au))
  repeat (first | ((with_reducible refine AWp.ofC ?_ ?_); (focus exact rfl); simp only [go_sem]) | ((with_reducible refine an ?_ ?_); focus exact Au))
  refine ⟨fun k1 => ?_, fun k1 => ?_⟩
  · have hR : R = ([], 1) := by rw [hsp, if_pos]; rcases k1 with k1 | k1 <;> simp; exact .inl (by omega); exact .inr (by omega)
    rw [hR]
    repeat (first | ((with_reducible refine AWp.ofC ?_ ?_); (focus exact rfl); simp only [go_sem]) | ((with_reducible refine an ?_ ?_); focus exact Au))
    refine ret_view [] ?_; simp only [go_sem]
    exact .mkTup (Vws.cons (.nil 1) (Vws.refl _))
  intro k2
  have hl : c.length = d.length := by omega
  have hlen := hlen hl
  have h3 := h3 (by omega)
  rw [if_neg (by simp; omega)] at hsp
  repeat ((with_reducible refine an ?_ ?_); focus exact As)
  refine (h1).val.use ?_; simp only [go_sem]
  repeat ((with_reducible refine an ?_ ?_); focus exact As)
  refine GCall.use (ab b2) (fun _ => ⟨At, (h2).val.use ⟨rfl, rfl⟩⟩) ?_; simp only [go_sem]
  repeat (first | ((with_reducible refine AWp.ofC ?_ ?_); (focus exact rfl); simp only [go_sem]) | ((with_reducible refine an ?_ ?_); focus exact Au))
  refine ⟨fun k3 => ?_, fun k3 => ?_⟩
  · have hR : R = ([], 2) := by rw [hsp, if_pos]; rcases k3 with k3 | k3 <;> simp [k3]
    rw [hR]
    repeat (first | ((with_reducible refine AWp.ofC ?_ ?_); (focus exact rfl); simp only [go_sem]) | ((with_reducible refine an ?_ ?_); focus exact Au))
    refine ret_view [] ?_; simp only [go_sem]
    exact .mkTup (Vws.cons (.nil 1) (Vws.refl _))
  intro k4
  rw [k3, k4, if_neg (by decide)] at hsp
  have hbc := @hbc k3
  have hbd := @hbd k4
  repeat (first | ((with_reducible refine AWp.ofC ?_ ?_); (focus exact rfl); simp only [go_sem]) | ((with_reducible refine an ?_ ?_); focus exact Au))
  refine AWp.range' c.length [6] [0, 1, 29] (fun i vs L => ∃ v Ln, vs = [v] ∧ L = Ln ∧ AppSt 3 1 (((shS c d).take i).map ai) v Ln) (by omega) rfl rfl rfl ⟨anil, [], rfl, rfl, .nil⟩ ?_ ?_
  · rintro i vs L' hi - ⟨v, Ln, rfl, rfl, hA⟩
    have hid : i < d.length := by omega
    have hb1 := hbc hi
    have hb2 := hbd hid
    have hgc := getD_map (f := ai) hi
    have hgd := getD_map (f := ai) hid
    rw [shS_take hi hid, List.map_append]
    have hyl : (((shS c d).take i).map ai).length ≤ 1000000 := by simp; omega
    generalize ((shS c d).take i).map ai = ys at *
    rcases hA.inv with ⟨e1, rfl, rfl⟩ | ⟨b, cap, rfl, rfl⟩
    · simp only [go_sem]
      repeat ((with_reducible refine an ?_ ?_); focus exact As)
      refine AWp.of ?_; simp only [go_sem]
      refine AWp.mix mixed [0, 1, 2, 3, 4, 5, 6, 7, 8, 9] (.step 10 (.step 11 (.step 12 .done .done) .done) .done) (by kernel_rfl) ?_; simp only [go_sem, hgc, hgd]
      repeat ((with_reducible refine an ?_ ?_); focus exact As)
      intro b' cap' _ 
      repeat ((with_reducible refine an ?_ ?_); focus exact As)
      refine ⟨_, List.Sublist.refl _, _, [(b', .row 3 1 [ai (c[i] + d[i])] cap')], rfl, rfl, ?_⟩
      rw [e1]
      exact .row _ _ _
    · simp only [go_sem]
      repeat ((with_reducible refine an ?_ ?_); focus exact As)
      refine AWp.of ?_; simp only [go_sem]
      refine AWp.mix mixed [0, 1, 2, 3, 4, 5, 6, 7, 8, 9] (.step 10 (.step 11 (.step 12 .done .done) .done) .done) (by kernel_rfl) ?_; simp only [go_sem, hgc, hgd]
      repeat ((with_reducible refine an ?_ ?_); focus exact As)
      intro b' cap' _
      repeat ((with_reducible refine an ?_ ?_); focus exact As)
      refine ⟨_, List.Sublist.refl _, _, [(b', .row 3 1 (ys ++ [ai (c[i] + d[i])]) cap')], rfl, rfl, ?_⟩
      have := AppSt.row (t := 3) (k := 1) b' (ys ++ [ai (c[i] + d[i])]) cap'
      simpa using this
  · rintro vs LL - ⟨v, Ln, rfl, rfl, hA⟩
    rw [List.take_of_length_le (by omega)] at hA
    simp only [go_sem]
    have hvw := hA.vw []
    rw [List.append_nil] at hvw
    have hfo := hA.fo
    refine AWp.viewP (Lf := LL) (Lk := []) (L' := []) (by simp) (LVw.refl _) [(6, .sl 1 ((shS c d).map ai))] (by intro p hp; simp at hp; subst hp; exact hvw) ?_
    generalize (shS c d).all inB = b3 at *
    generalize shS c d = S at *
    simp only [go_sem]
    repeat (first | ((with_reducible refine AWp.ofC ?_ ?_); (focus exact rfl); simp only [go_sem]) | ((with_reducible refine an ?_ ?_); focus exact Au))
    repeat ((with_reducible refine an ?_ ?_); focus exact As)
    refine (h3).val.use ?_; simp only [go_sem]
    repeat (first | ((with_reducible refine AWp.ofC ?_ ?_); (focus exact rfl); simp only [go_sem]) | ((with_reducible refine an ?_ ?_); focus exact Au))
    refine ⟨fun k5 => ?_, fun k5 => ?_⟩
    · have hR : R = ([], 9) := by rw [hsp, if_pos k5]
      rw [hR]
      repeat (first | ((with_reducible refine AWp.ofC ?_ ?_); (focus exact rfl); simp only [go_sem]) | ((with_reducible refine an ?_ ?_); focus exact Au))
      refine ret_view [] ?_; simp only [go_sem]
      exact .mkTup (Vws.cons (.nil 1) (Vws.refl _))
    · have hR : R = (S, 0) := by rw [hsp, if_neg (by rw [k5]; decide)]
      rw [hR]
      repeat (first | ((with_reducible refine AWp.ofC ?_ ?_); (focus exact rfl); simp only [go_sem]) | ((with_reducible refine an ?_ ?_); focus exact Au))
      refine ret_eq ?_; simp only [go_sem]
end Go.AL
end
section
namespace Go.AL
open Go Go.RowKit
set_option maxRecDepth 4000
theorem zw_cAt {c d : List Int} {g : Int → Int → Int} (h : c.length = d.length) {p : Nat} (hp : p < c.length) : cAt (List.zipWith g c d) p = g (cAt c p) (cAt d p) := by
  rw [cAt_nat (show p < (List.zipWith g c d).length by rw [List.length_zipWith]; omega), cAt_nat hp, cAt_nat (show p < d.length by omega), List.getElem_zipWith]
theorem join_cAt {c d : List Int} (h : c.length = d.length) {p : Nat} (hp : p < c.length) : cAt (joinL c d) p = if cAt c p < cAt d p then cAt d p else cAt c p := zw_cAt h hp
theorem join_len {c d : List Int} (h : c.length = d.length) : (joinL c d).length = c.length := by unfold joinL; rw [List.length_zipWith]; omega
theorem join_given {ps : List Pr} {c d : List Int} (hc : givenF ps [c] [] = 0) (hd : givenF ps [d] [] = 0) : givenF ps [joinL c d] [] = 0 := by
  obtain ⟨hv, hcl, hcr, hcc⟩ := givenF_zero hc
  obtain ⟨_, hdl, hdr, hdc⟩ := givenF_zero hd
  have hl := join_len (c := c) (d := d) (by omega)
  rw [givenL]
  refine ⟨⟨hv, fun x hx => ?_⟩, fun x hx => ?_, fun x hx => ?_⟩ <;> (simp only [List.mem_singleton] at hx; subst hx)
  · omega
  · rw [inRange_iff (by omega)]
    intro p hp
    have h1 := (inRange_iff hcl).1 hcr p hp
    have h2 := (inRange_iff hdl).1 hdr p hp
    rw [join_cAt (by omega) (by omega)]
    split <;> omega
  · rw [closed_iff]
    intro p hp i hi hk hle
    obtain ⟨hq, j, hj, h1, _, _⟩ := recv_peer (valid_parts hv).2.2 hp hi hk
    rw [join_cAt (by omega) (by omega)] at hle
    have g1 := closed_iff.1 hcc p hp i hi hk
    have g2 := closed_iff.1 hdc p hp i hi hk
    rw [h1] at g1 g2 ⊢
    simp only at g1 g2 ⊢
    generalize ps[p].evs[i].peer.toNat = q at *
    rw [join_cAt (by omega) (by omega)]
    split at hle <;> split <;> omega
section
variable {ps : List Pr} {c j : List Int}
/-- A greater cut, less the dropped one, is a cut of the dropped trace. -/
theorem rest_given (hc : givenF ps [c] [] = 0) (hj : givenF ps [j] [] = 0) (hle : ∀ p, p < ps.length → cAt c p ≤ cAt j p) : givenF (dropF ps c) [subL j c] [] = 0 := by
  obtain ⟨hv, hcl, hcr, hcc⟩ := givenF_zero hc
  obtain ⟨_, hjl, hjr, hjc⟩ := givenF_zero hj
  have hm := (valid_parts hv).2.2
  have hul := dropF_length hcl
  have hum := drop_msgF hm hcl hcr
  have hl : (subL j c).length = ps.length := by unfold subL; rw [List.length_zipWith]; omega
  have hs : ∀ p : Nat, p < ps.length → cAt (subL j c) p = cAt j p - cAt c p := fun p hp => zw_cAt (by omega) (by omega)
  rw [givenL]
  refine ⟨⟨drop_valid hv hcl hcr, fun x hx => ?_⟩, fun x hx => ?_, fun x hx => ?_⟩ <;> (simp only [List.mem_singleton] at hx; subst hx)
  · omega
  · rw [inRange_iff (by omega)]
    intro p hp'
    have hp : p < ps.length := by omega
    obtain ⟨_, hpc, l1, _⟩ := drop_len hcl hp
    have h1 := (inRange_iff hcl).1 hcr p hp
    have h2 := (inRange_iff hjl).1 hjr p hp
    have h3 := hle p hp
    rw [hs p hp, l1]
    rw [cAt_nat hpc] at *
    omega
  · rw [closed_iff]
    intro p hp' i hi' hk hlt
    obtain ⟨hp, hpc, hi, e1⟩ := drop_ev hcl hp' hi'
    rw [e1] at hk ⊢
    have d := dropEv_kind (S := sentB ps c) (e := ps[p].evs[c[p].toNat + i])
    obtain ⟨k3, kS⟩ := d.2.1 hk
    rw [d.2.2.2.2 k3 kS]
    obtain ⟨hr1, hr2⟩ := inRangeF_get hcr hcl hp
    obtain ⟨hq, j0, hj0, s1, s2, s3⟩ := recv_peer hm hp hi k3
    obtain ⟨_, hst⟩ := sent_iff hm hcl hp hi k3
    rw [kS, s1] at hst
    have hgt : c[ps[p].evs[c[p].toNat + i].peer.toNat] < (j0 : Int) + 1 := by
      have := hst.symm
      rw [decide_eq_false_iff_not] at this
      simpa using this
    have hcl2 := closed_iff.1 hjc p hp (c[p].toNat + i) hi k3
    rw [hs p hp, cAt_nat hpc] at hlt
    have hcl2 := hcl2 (by omega)
    rw [s1] at hcl2
    simp only at hcl2
    have hq2 : ps[p].evs[c[p].toNat + i].peer.toNat < c.length := by omega
    obtain ⟨hs1, hs2⟩ := inRangeF_get hcr hcl hq
    obtain ⟨hq', _, l1, _⟩ := drop_len hcl hq
    have hjn : j0 - c[ps[p].evs[c[p].toNat + i].peer.toNat].toNat < (dropF ps c)[ps[p].evs[c[p].toNat + i].peer.toNat].evs.length := by omega
    obtain ⟨_, _, hx, e4⟩ := drop_ev hcl hq' hjn
    have idx : c[ps[p].evs[c[p].toNat + i].peer.toNat].toNat + (j0 - c[ps[p].evs[c[p].toNat + i].peer.toNat].toNat) = j0 := by omega
    simp only [idx] at e4
    have d2 := dropEv_kind (S := sentB ps c) (e := ps[ps[p].evs[c[p].toNat + i].peer.toNat].evs[j0])
    rw [d2.2.2.2.1 s2] at e4
    have hu := pair_unique hum hq' hjn (.inl (by rw [e4]; exact s2))
    rw [e4, s2, s3] at hu
    have hsn : sndr (dropF ps c) ps[p].evs[c[p].toNat + i].msg = _ := hu
    rw [hsn]
    simp only
    rw [hs _ hq, cAt_nat hq2]
    omega
end
end Go.AL
end
section
namespace Go.AL
open Go Go.RowKit
set_option maxRecDepth 4000
theorem Vw.mkRp {L : AHeap} {xs xs' : List AV} {k i j : Nat} (h : Vws L xs xs') : Vw L (.rp k xs i j) (.rp k xs' i j) := .rp h.1 h.2
theorem psA_valid : validF psA = true := by
  unfold validF faultF
  rw [if_neg (by decide), show procFirst psA = none from rfl, show evFirst psA = none from rfl, show msgF psA = none from rfl, cycF_rank (fun x => x.1) (by decide)]
  rfl
theorem psA_given : givenF psA [[1, 0]] [] = 0 := by
  unfold givenF sizedF
  rw [psA_valid]
  rfl
theorem psA_drop : dropF psA [1, 0] = psB := by rfl
theorem psA_sm : Sm psA := ⟨by decide, by decide, by decide, by decide⟩
theorem psB_sm : Sm psB := ⟨by decide, by decide, by decide, by decide⟩
theorem law49_awake : PC Go.Proofs.Tryz.prog 43 [] (ab true) := by
  have h1 := prune_Stable [[3, 1], [2, 4]] (by decide) (by decide)
  have h2 := prune_Kept [[3, 1], [2, 4]] (by decide) (by decide)
  have h3 := prune_Drop psA psA_sm [1, 0] (by decide)
  have e1 : aStable [[3, 1], [2, 4]] = .tup [aInts [2, 1], ai 0] := by rfl
  have e2 : aKept [[3, 1], [2, 4]] = .tup [ai 4, ai 0] := by rfl
  have e3 : aDrop psA [1, 0] = .tup [aTr psB, ai 0] := by unfold aDrop; rw [if_neg (by simp [psA_given]), psA_drop]
  rw [e1] at h1; rw [e2] at h2; rw [e3] at h3
  refine PC.enter 67 [.tmp 0] [6, 7, 9, 10, 11, 12, 24, 27, 29, 33, 39, 41, 47] Go.Proofs.Tryz.func43 rfl rfl rfl rfl rfl (by simp) (AWp.of ?_); simp only [go_sem]
  repeat (first | ((with_reducible refine AWp.ofC ?_ ?_); (focus exact rfl); simp only [go_sem]) | ((with_reducible refine an ?_ ?_); focus exact Au))
  repeat ((with_reducible refine an ?_ ?_); focus exact As)
  refine (h1).val.use ?_; simp only [go_sem]
  repeat (first | ((with_reducible refine AWp.ofC ?_ ?_); (focus exact rfl); simp only [go_sem]) | ((with_reducible refine an ?_ ?_); focus exact Au))
  repeat ((with_reducible refine an ?_ ?_); focus exact As)
  refine (h2).val.use ?_; simp only [go_sem]
  repeat (first | ((with_reducible refine AWp.ofC ?_ ?_); (focus exact rfl); simp only [go_sem]) | ((with_reducible refine an ?_ ?_); focus exact Au))
  intro b6
  refine AWp.view [] [(6, .rp 1 [aTr psA] 0 0)] (LVw.refl _) ?_ ?_
  · intro p hp
    simp only [List.mem_singleton] at hp
    subst hp
    show Vw [] _ (.rp 1 [aTr psA] 0 0)
    simp only [go_sem]
    refine Vw.mkRp ?_
    repeat (first | exact Vw.refl _ | exact Vws.nil | exact Vw.nil _ | refine Vws.cons ?_ ?_ | refine Vw.mkAgg ?_ | refine Vw.mkSl ?_)
  simp only [go_sem]
  repeat ((with_reducible refine an ?_ ?_); focus exact As)
  refine AWp.of ?_; simp only [go_sem]
  repeat ((with_reducible refine an ?_ ?_); focus exact As)
  refine (h3).val.use ?_; simp only [go_sem]
  repeat (first | ((with_reducible refine AWp.ofC ?_ ?_); (focus exact rfl); simp only [go_sem]) | ((with_reducible refine an ?_ ?_); focus exact Au))
  intro b7
  repeat (first | ((with_reducible refine AWp.ofC ?_ ?_); (focus exact rfl); simp only [go_sem]) | ((with_reducible refine an ?_ ?_); focus exact Au))
  intro b9
  refine AWp.view [] [(9, .rp 1 [aTr psB] 0 0)] (LVw.refl _) ?_ ?_
  · intro p hp
    simp only [List.mem_singleton] at hp
    subst hp
    show Vw [] _ (.rp 1 [aTr psB] 0 0)
    simp only [go_sem]
    refine Vw.mkRp ?_
    repeat (first | exact Vw.refl _ | exact Vws.nil | exact Vw.nil _ | refine Vws.cons ?_ ?_ | refine Vw.mkAgg ?_ | refine Vw.mkSl ?_)
  simp only [go_sem]
  have i1 : decide (([2, 1] : List Int) = [2, 1]) = true := by decide
  have i2 : decide (psB = psB) = true := decide_eq_true rfl
  repeat (first | ((with_reducible refine AWp.ofC ?_ ?_); (focus exact rfl); simp only [go_sem]) | ((with_reducible refine an ?_ ?_); focus exact Au))
  repeat ((with_reducible refine an ?_ ?_); focus exact As)
  refine GCall.use (ab (decide (([2, 1] : List Int) = [2, 1]))) (fun _ => ⟨At, (ints_equal [2, 1] [2, 1] (by decide)).val.use ⟨rfl, rfl⟩⟩) ?_; simp only [go_sem]
  repeat (first | ((with_reducible refine AWp.ofC ?_ ?_); (focus exact rfl); simp only [go_sem, i1]) | ((with_reducible refine an ?_ ?_); focus exact Au))
  repeat ((with_reducible refine an ?_ ?_); focus exact As)
  refine GCall.use (ab (decide (psB = psB))) (fun _ => ⟨At, (ref12_Same psB psB psB_sm).val.use ⟨rfl, rfl⟩⟩) ?_; simp only [go_sem]
  repeat (first | ((with_reducible refine AWp.ofC ?_ ?_); (focus exact rfl); simp only [go_sem]) | ((with_reducible refine an ?_ ?_); focus exact Au))
  refine ret_eq ?_; simp only [go_sem]
end Go.AL
end
section
namespace Go.AL
open Go Go.RowKit
set_option maxRecDepth 4000
theorem bigF_sm {ps : List Pr} (h : bigF ps = false) : Sm ps := by
  simp only [bigF, Bool.or_eq_false_iff, decide_eq_false_iff_not, List.any_eq_false, bigP, asg20, Bool.or_eq_true, decide_eq_true_eq, not_or, Bool.not_eq_true] at h
  obtain ⟨h1, h2⟩ := h
  exact ⟨by omega, fun p hp => by have := (h2 p hp).1; omega, fun p hp => by have := (h2 p hp).2.1; omega, fun p hp e he => by have := (h2 p hp).2.2 e he; omega⟩
theorem law49_big11 (e : Ev) : PC Go.Proofs.Tryz.prog 79 [aEv e] (ab (asg20 e)) := by
  refine PC.enter 7 [.tmp 2] [1] Go.Proofs.Tryz.func79 rfl rfl rfl rfl rfl (by simp) (AWp.of ?_); simp only [go_sem]
  repeat (first | ((with_reducible refine AWp.ofC ?_ ?_); (focus exact rfl); simp only [go_sem]) | ((with_reducible refine an ?_ ?_); focus exact Au))
  refine ret_eq ?_; simp only [go_sem]
  rfl
theorem law49_big1 (x : Pr) : PC Go.Proofs.Tryz.prog 78 [aPr x] (ab (bigP x)) := by
  refine PC.enter 18 [.tmp 2] [1] Go.Proofs.Tryz.func78 rfl rfl rfl rfl rfl (by simp) (AWp.of ?_); simp only [go_sem]
  repeat (first | ((with_reducible refine AWp.ofC ?_ ?_); (focus exact rfl); simp only [go_sem]) | ((with_reducible refine an ?_ ?_); focus exact Au))
  refine GCall.use (ab (x.evs.any asg20)) (fun hg => ⟨by have := hg; simp at this ⊢; omega, (events_containsFunc x.evs (by have := hg; simp at this; omega) _ rfl asg20 fun e _ => (law49_big11 e).val).val.use ⟨rfl, rfl⟩⟩) ?_; simp only [go_sem]
  repeat (first | ((with_reducible refine AWp.ofC ?_ ?_); (focus exact rfl); simp only [go_sem]) | ((with_reducible refine an ?_ ?_); focus exact Au))
  refine ret_eq ?_; simp only [go_sem]
  unfold bigP; rw [Bool.or_assoc]
theorem law49_big (ps : List Pr) : PC Go.Proofs.Tryz.prog 44 [aTr ps] (ab (bigF ps)) := by
  refine PC.enter 12 [.tmp 2] [1] Go.Proofs.Tryz.func44 rfl rfl rfl rfl rfl (by simp) (AWp.of ?_); simp only [go_sem]
  repeat (first | ((with_reducible refine AWp.ofC ?_ ?_); (focus exact rfl); simp only [go_sem]) | ((with_reducible refine an ?_ ?_); focus exact Au))
  refine GCall.use (ab (ps.any bigP)) (fun hg => ⟨by have := hg; simp at this ⊢; omega, (procs_containsFunc ps (by have := hg; simp at this; omega) _ rfl bigP fun e _ => (law49_big1 e).val).val.use ⟨rfl, rfl⟩⟩) ?_; simp only [go_sem]
  repeat (first | ((with_reducible refine AWp.ofC ?_ ?_); (focus exact rfl); simp only [go_sem]) | ((with_reducible refine an ?_ ?_); focus exact Au))
  refine ret_eq ?_; simp only [go_sem]
  rfl
theorem law49_size (ps : List Pr) (hs : Sm ps) : PC Go.Proofs.Tryz.prog 45 [aTr ps] (ai (off ps ps.length)) := by
  have hl := hs.procs
  have hof := off_small hs
  refine PC.enter 20 [.tmp 2] [1, 5] Go.Proofs.Tryz.func45 rfl rfl rfl rfl rfl (by simp) (AWp.of ?_); simp only [go_sem]
  repeat (first | ((with_reducible refine AWp.ofC ?_ ?_); (focus exact rfl); simp only [go_sem]) | ((with_reducible refine an ?_ ?_); focus exact Au))
  refine AWp.range' ps.length [3] [7, 8] (fun k vs L => L = [] ∧ vs = [ai (off ps k)]) (by omega) rfl rfl rfl ⟨rfl, by simp [off]; rfl⟩ ?_ ?_
  · rintro k vs L' hk - ⟨rfl, rfl⟩
    have h1 := hof k (by omega)
    have h2 := hs.evs _ (List.getElem_mem hk)
    simp only [go_sem]
    repeat ((with_reducible refine an ?_ ?_); focus exact As)
    refine AWp.of ?_; simp only [go_sem, getD_map hk]
    repeat ((with_reducible refine an ?_ ?_); focus exact As)
    intros
    refine AWp.of ?_; simp only [go_sem]
    repeat ((with_reducible refine an ?_ ?_); focus exact As)
    exact ⟨_, List.Sublist.refl _, rfl, by rw [off_succ hk]; simp⟩
  · rintro vs L' - ⟨rfl, rfl⟩
    simp only [go_sem]
    repeat (first | ((with_reducible refine AWp.ofC ?_ ?_); (focus exact rfl); simp only [go_sem]) | ((with_reducible refine an ?_ ?_); focus exact Au))
    refine ret_eq ?_; simp only [go_sem]
end Go.AL
end
section
namespace Go.AL
open Go Go.RowKit
set_option maxRecDepth 100000
section
variable {H : Type} {enc : TypeId × Value → H} {W : World}
theorem rdInts : Rd enc Go.Proofs.Tryz.prog W 43 1 aInts (fun l => l.length ≤ maxLen) :=
  (Rd.slice Go.Proofs.Tryz.underlying43 (by kernel_rfl : Program.cellsOf Go.Proofs.Tryz.prog 3 = 1) (by decide) (Rd.int Go.Proofs.Tryz.underlying3)).map id (fun _ => rfl) (fun _ h => h.1)
theorem rdPrs : Rd enc Go.Proofs.Tryz.prog W 22 1 aPrs (fun _ => True) :=
  (Rd.slice Go.Proofs.Tryz.underlying22 (by kernel_rfl : Program.cellsOf Go.Proofs.Tryz.prog 81 = 3) (by decide) rdPr).map id (fun _ => rfl) (fun _ _ => trivial)
theorem rdTr : Rd enc Go.Proofs.Tryz.prog W 24 1 aTr (fun _ => True) :=
  (Rd.struct (ts := [22]) Go.Proofs.Tryz.underlying24 rfl rfl (by kernel_rfl) (by kernel_rfl) (.cons rdPrs (fun _ => ⟨rfl, rfl⟩) .nil)).map (fun (y : List Pr × Unit) => y.1) (fun _ => rfl) (fun _ _ => trivial)
end
end Go.AL
end
section
/- A rewritten tree says at the rest of a cut what the tree says at the cut. Plain laws. No condition. -/
namespace Go.AL
open Go Go.RowKit
set_option maxRecDepth 4000
section
variable {ps : List Pr} {c : List Int}
/-! ### Values -/
variable {j : List Int} {ch : Int → Int → Int}
end
end Go.AL
end
