/- The package trace, fourth part: the numbers of messages. No condition. -/
import Derived.Test.YtkfkdmefabefkaaWEv
namespace Go.AL
open Go Go.RowKit
set_option maxRecDepth 4000
/-- The first event of a kind with a number; (0, 0) if there is none. -/
def findIn (l : List (Eid × Ev)) (kind m : Int) : Eid := match l.find? (fun x => decide (x.2.kind = kind) && decide (x.2.msg = m)) with | some x => x.1 | none => (0, 0)
def sendsB (ps : List Pr) (p m to : Int) : Bool := match ps[p.toNat]? with | some x => x.evs.any fun e => decide (e.kind = 2) && decide (e.msg = m) && decide (e.peer = to) | none => false
def pairF (ps : List Pr) (k : Nat) : Int :=
  match (evIds ps)[k]? with
  | some (id, e) =>
    if e.kind = 2 then if (findIn ((evIds ps).take k) 2 e.msg).2 > 0 then 8 else 0
    else if e.kind = 3 then if (findIn ((evIds ps).take k) 3 e.msg).2 > 0 then 8 else if !sendsB ps e.peer e.msg id.1 then 7 else 0
    else 0
  | none => 0
/-- The first event whose number is at fault, and how. -/
def msgF (ps : List Pr) : Option (Eid × Int) :=
  match (List.range (evIds ps).length).find? (fun k => pairF ps k != 0) with
  | some k => some ((((evIds ps)[k]?).map (·.1)).getD (0, 0), pairF ps k)
  | none => none
/-- All events have the right form. -/
def Formed (ps : List Pr) : Prop := ∀ (p : Nat) (hp : p < ps.length), ∀ e ∈ ps[p].evs, formedI ps.length p e = true
def cellOf (l : List (Eid × Ev)) (j : Nat) : AV :=
  ai (if j % 4 = 0 then (findIn l 2 (j / 4 : Nat)).1 else if j % 4 = 1 then (findIn l 2 (j / 4 : Nat)).2 else if j % 4 = 2 then (findIn l 3 (j / 4 : Nat)).1 else (findIn l 3 (j / 4 : Nat)).2)
def letCells (l : List (Eid × Ev)) : List AV := (List.range 800).map (cellOf l)
theorem letCells_nil : zrow 800 (ai 0) = letCells [] := by
  refine (List.eq_replicate_iff.2 ⟨by simp [letCells], fun x hx => ?_⟩).symm
  simp only [letCells, List.mem_map] at hx
  obtain ⟨j, _, rfl⟩ := hx
  simp [cellOf, findIn]
theorem letCells_get (l : List (Eid × Ev)) {j : Nat} (h : j < 800) : (letCells l).getD j .any = cellOf l j := by
  simp [letCells, List.getD_eq_getElem?_getD, h]
theorem letCells_from (l : List (Eid × Ev)) (m : Int) (h1 : 0 ≤ m) (h2 : m ≤ 199) : (letCells l).getD (m.toNat * 4 + 1) .any = ai (findIn l 2 m).2 := by
  rw [letCells_get l (by omega)]; unfold cellOf
  rw [if_neg (by omega), if_pos (by omega), show ((m.toNat * 4 + 1) / 4 : Nat) = m.toNat by omega, Int.toNat_of_nonneg h1]
theorem letCells_to (l : List (Eid × Ev)) (m : Int) (h1 : 0 ≤ m) (h2 : m ≤ 199) : (letCells l).getD (m.toNat * 4 + 2 + 1) .any = ai (findIn l 3 m).2 := by
  rw [letCells_get l (by omega)]; unfold cellOf
  rw [if_neg (by omega), if_neg (by omega), if_neg (by omega), show ((m.toNat * 4 + 2 + 1) / 4 : Nat) = m.toNat by omega, Int.toNat_of_nonneg h1]
theorem letCells_length (l : List (Eid × Ev)) : (letCells l).length = 800 := by simp [letCells]
theorem letCells_one (l : List (Eid × Ev)) : (letCells l).all one = true := by
  simp only [letCells, List.all_map, List.all_eq_true]
  intro x _; simp [cellOf, one, Value.oneCell']
theorem letCells_pair (l : List (Eid × Ev)) (m c : Nat) (hm : m < 200) (hc : c = 0 ∨ c = 2) : ((letCells l).drop (m * 4 + c)).take 2 = if c = 0 then [ai (findIn l 2 m).1, ai (findIn l 2 m).2] else [ai (findIn l 3 m).1, ai (findIn l 3 m).2] := by
  have h1 : (letCells l).drop (m * 4 + c) = cellOf l (m * 4 + c) :: cellOf l (m * 4 + c + 1) :: (letCells l).drop (m * 4 + c + 2) := by
    rw [List.drop_eq_getElem_cons (by rw [letCells_length]; omega), List.drop_eq_getElem_cons (by rw [letCells_length]; omega)]
    simp [letCells]
  rw [h1]
  rcases hc with rfl | rfl
  · simp [cellOf, show (m * 4 + 1) % 4 = 1 by omega, show (m * 4 + 1) / 4 = m by omega]
  · simp [cellOf, show (m * 4 + 2) % 4 = 2 by omega, show (m * 4 + 2) / 4 = m by omega, show (m * 4 + 3) % 4 = 3 by omega, show (m * 4 + 3) / 4 = m by omega]
theorem findIn_append (l : List (Eid × Ev)) (id : Eid) (e : Ev) (kind m : Int) (h : (findIn l kind m).2 ≤ 0) (hl : ∀ x ∈ l, 0 < x.1.2) :
    findIn (l ++ [(id, e)]) kind m = if e.kind = kind ∧ e.msg = m then id else findIn l kind m := by
  unfold findIn at *
  rw [List.find?_append]
  cases hf : l.find? (fun x => decide (x.2.kind = kind) && decide (x.2.msg = m)) with
  | some x => rw [hf] at h; have := hl x (List.mem_of_find?_eq_some hf); simp at h; omega
  | none =>
    by_cases hc : e.kind = kind ∧ e.msg = m
    · simp [hc]
    · rw [if_neg hc]
      have : (List.find? (fun x : Eid × Ev => decide (x.2.kind = kind) && decide (x.2.msg = m)) [(id, e)]) = none := by
        rw [List.find?_eq_none]; intro x hx; simp at hx; subst hx; simpa using hc
      rw [this]; rfl
theorem findIn_append_ne (l : List (Eid × Ev)) (id : Eid) (e : Ev) (kind m : Int) (hne : ¬ (e.kind = kind ∧ e.msg = m)) : findIn (l ++ [(id, e)]) kind m = findIn l kind m := by
  unfold findIn
  rw [List.find?_append]
  have : (List.find? (fun x : Eid × Ev => decide (x.2.kind = kind) && decide (x.2.msg = m)) [(id, e)]) = none := by
    rw [List.find?_eq_none]; intro x hx; simp at hx; subst hx; simpa using hne
  rw [this]; simp
/-- The table with one event more. -/
theorem letCells_set (l : List (Eid × Ev)) (id : Eid) (e : Ev) (m c : Nat) (hm : m < 200) (he : e.msg = m) (hc : c = 0 ∧ e.kind = 2 ∨ c = 2 ∧ e.kind = 3) (h : (findIn l e.kind m).2 ≤ 0) (hl : ∀ x ∈ l, 0 < x.1.2) :
    splice (letCells l) (m * 4 + c) [ai id.1, ai id.2] = letCells (l ++ [(id, e)]) := by
  apply List.ext_getElem?
  intro j
  rw [splice_get _ _ _ (by rw [letCells_length]; simp; omega)]
  by_cases hj : j < 800
  · have g : ∀ l', (letCells l')[j]? = some (cellOf l' j) := fun l' => by simp [letCells, hj]
    rw [g, g]
    by_cases hin : m * 4 + c ≤ j ∧ j < m * 4 + c + 2
    · rw [if_pos (by simpa using hin)]
      have hd : j / 4 = m := by omega
      rcases hc with ⟨rfl, hk⟩ | ⟨rfl, hk⟩
      · rw [hk] at h
        have hf := findIn_append l id e 2 m h hl
        rw [if_pos ⟨hk, he⟩] at hf
        rcases (show j = m * 4 ∨ j = m * 4 + 1 by omega) with rfl | rfl
        · simp [cellOf, hf]
        · simp [cellOf, show (m * 4 + 1) % 4 = 1 by omega, show (m * 4 + 1) / 4 = m by omega, hf]
      · rw [hk] at h
        have hf := findIn_append l id e 3 m h hl
        rw [if_pos ⟨hk, he⟩] at hf
        rcases (show j = m * 4 + 2 ∨ j = m * 4 + 3 by omega) with rfl | rfl
        · simp [cellOf, show (m * 4 + 2) % 4 = 2 by omega, show (m * 4 + 2) / 4 = m by omega, hf]
        · simp [cellOf, show (m * 4 + 3) % 4 = 3 by omega, show (m * 4 + 3) / 4 = m by omega, hf, show m * 4 + 3 - (m * 4 + 2) = 1 by omega]
    · rw [if_neg (by simpa using hin)]
      congr 1
      have e2 : j % 4 < 2 → findIn (l ++ [(id, e)]) 2 (j / 4 : Nat) = findIn l 2 (j / 4 : Nat) := fun hj4 => findIn_append_ne _ _ _ _ _ (by rintro ⟨h1, h2⟩; rw [he] at h2; rcases hc with ⟨rfl, hk⟩ | ⟨rfl, hk⟩ <;> omega)
      have e3 : ¬ j % 4 < 2 → findIn (l ++ [(id, e)]) 3 (j / 4 : Nat) = findIn l 3 (j / 4 : Nat) := fun hj4 => findIn_append_ne _ _ _ _ _ (by rintro ⟨h1, h2⟩; rw [he] at h2; rcases hc with ⟨rfl, hk⟩ | ⟨rfl, hk⟩ <;> omega)
      unfold cellOf
      by_cases h4 : j % 4 < 2
      · rw [e2 h4]
        rcases (show j % 4 = 0 ∨ j % 4 = 1 by omega) with h | h <;> simp [h]
      · rw [e3 h4]
        rcases (show j % 4 = 2 ∨ j % 4 = 3 by omega) with h | h <;> simp [h]
  · have g : ∀ l', (letCells l')[j]? = none := fun l' => by simp [letCells]; omega
    rw [g, g, if_neg (by simp; omega)]
theorem letCells_setA (l : List (Eid × Ev)) (a b : Int) (e : Ev) (h1 : 0 ≤ e.msg) (h2 : e.msg ≤ 199) (hk : e.kind = 2) (h : (findIn l 2 e.msg).2 ≤ 0) (hl : ∀ x ∈ l, 0 < x.1.2) :
    (letCells l).take (e.msg.toNat * 4) ++ [ai a, ai b] ++ (letCells l).drop (e.msg.toNat * 4 + 2) = letCells (l ++ [((a, b), e)]) := by
  have := letCells_set l (a, b) e e.msg.toNat 0 (by omega) (by omega) (.inl ⟨rfl, hk⟩) (by rw [hk, Int.toNat_of_nonneg h1]; exact h) hl
  rw [← this]; rfl
theorem letCells_setB (l : List (Eid × Ev)) (a b : Int) (e : Ev) (h1 : 0 ≤ e.msg) (h2 : e.msg ≤ 199) (hk : e.kind = 3) (h : (findIn l 3 e.msg).2 ≤ 0) (hl : ∀ x ∈ l, 0 < x.1.2) :
    (letCells l).take (e.msg.toNat * 4 + 2) ++ [ai a, ai b] ++ (letCells l).drop (e.msg.toNat * 4 + 2 + 2) = letCells (l ++ [((a, b), e)]) := by
  have := letCells_set l (a, b) e e.msg.toNat 2 (by omega) (by omega) (.inr ⟨rfl, hk⟩) (by rw [hk, Int.toNat_of_nonneg h1]; exact h) hl
  rw [← this]; rfl
/-- An event that is neither a send nor a receive leaves the table as it is. -/
theorem letCells_same (l : List (Eid × Ev)) (id : Eid) (e : Ev) (h2 : e.kind ≠ 2) (h3 : e.kind ≠ 3) : letCells (l ++ [(id, e)]) = letCells l := by
  unfold letCells
  congr 1; funext j
  unfold cellOf
  rw [findIn_append_ne _ _ _ _ _ (by rintro ⟨h, _⟩; exact h2 h), findIn_append_ne _ _ _ _ _ (by rintro ⟨h, _⟩; exact h3 h)]
theorem evIds_pos (ps : List Pr) : ∀ x ∈ evIds ps, 0 < x.1.2 := fun x hx => by
  obtain ⟨k, hk⟩ := List.getElem?_of_mem hx
  obtain ⟨p, hp, i, hi, _, rfl⟩ := evIds_inv hk
  show (0 : Int) < (i : Int) + 1
  omega
theorem msgF_hit {ps : List Pr} {k : Nat} {x : Eid × Ev} (hx : (evIds ps)[k]? = some x) (h0 : ∀ j, j < k → pairF ps j = 0) (h : pairF ps k ≠ 0) : msgF ps = some (x.1, pairF ps k) := by
  have : (List.range (evIds ps).length).find? (fun k => pairF ps k != 0) = some k := by
    rw [List.find?_range_eq_some]
    exact ⟨by simpa using h, by simpa using (List.getElem?_eq_some_iff.1 hx).1, fun j hj => by simpa using h0 j hj⟩
  unfold msgF; rw [this]; simp only [hx]; rfl
theorem msgF_none {ps : List Pr} (h : ∀ k, k < (evIds ps).length → pairF ps k = 0) : msgF ps = none := by
  have : (List.range (evIds ps).length).find? (fun k => pairF ps k != 0) = none := by
    rw [List.find?_eq_none]; intro i hi; simpa using h i (List.mem_range.1 hi)
  unfold msgF; rw [this]
/-- The table of a trace's messages, as it lies in the memory. -/
def aLet (ps : List Pr) : AV := .rp 800 [.agg (letCells (evIds ps))] 0 0
def aMsg (ps : List Pr) : AV := match msgF ps with
  | some (id, e) => .tup [.v (.pointer none), aEid id, ai e]
  | none => .tup [aLet ps, aEid (0, 0), ai 0]
attribute [irreducible] letCells
theorem letCells_okv (l : List (Eid × Ev)) : elOk 800 (.agg (letCells l)) := ⟨letCells_length l, letCells_one l⟩
theorem formed_msg {n : Nat} {p : Int} {e : Ev} (h : formedI n p e = true) (hk : e.kind = 2 ∨ e.kind = 3) : 0 ≤ e.msg ∧ e.msg ≤ 199 ∧ 0 ≤ e.peer ∧ e.peer < n := by
  unfold formedI at h
  rw [if_neg (by omega), if_pos hk] at h
  simp only [inI, Bool.and_eq_true, decide_eq_true_eq] at h
  omega
theorem trace_messageFault (ps : List Pr) (hs : Sm ps) (hf : Formed ps) : PC Go.Proofs.Try.prog 60 [aTr ps] (aMsg ps) := by
  refine PC.enter 64 [.cell 2 102, .cell 3 81, .cell 4 27] [1, 5, 6, 7] Go.Proofs.Try.func60 rfl rfl rfl rfl rfl (by simp) (AWp.of ?_); simp only [go_sem]
  intro b2
  intro b3 h3
  intro b4 h4 h4'
  have z : zrow 800 (ai 0) = letCells [] := letCells_nil
  repeat ((with_reducible refine And.intro ?_ ?_); focus first | exact True.intro | omega | (intros; (with_reducible and_intros) <;> first | (with_reducible assumption) | omega; done) | (simp; done) | (simp; omega))
  refine AWp.of ?_; simp only [go_sem, z, letCells_length, letCells_one]
  intro b5 _ _ _ b6 _ _ _ _
  have n25 : ¬ b2 = b5 := by omega
  have n24 : ¬ b2 = b4 := by omega
  have n23 : ¬ b2 = b3 := by omega
  have n35 : ¬ b3 = b5 := by omega
  have n34 : ¬ b3 = b4 := by omega
  have n45 : ¬ b4 = b5 := by omega
  repeat ((with_reducible refine And.intro ?_ ?_); focus first | exact True.intro | omega | (intros; (with_reducible and_intros) <;> first | (with_reducible assumption) | omega; done) | (simp; done) | (simp; omega))
  refine AWp.of ?_; simp only [go_sem]
  repeat ((with_reducible refine And.intro ?_ ?_); focus first | exact True.intro | omega | (intros; (with_reducible and_intros) <;> first | (with_reducible assumption) | omega; done) | (simp; done) | (simp; omega))
  refine (trace_events ps).val.use ?_; simp only [go_sem]
  refine AWp.block (AWp.rangeFunc rfl [1, 2, 3, 4, 5] (evArgs ps) (fun k L => L = [(b5, .row 119 800 [.agg (letCells ((evIds ps).take k))] 1), (b4, .row 27 1 [ai 0] 1), (b3, .row 81 2 [aEid (0, 0)] 1), (b2, .row 102 1 [.v (.pointer none)] 1)] ∧ ∀ j, j < k → pairF ps j = 0)
    (fun e L => e = .ret ∧ ∃ id n, msgF ps = some (id, n) ∧ L = [(b4, .row 27 1 [ai n] 1), (b3, .row 81 2 [aEid id] 1), (b2, .row 102 1 [.v (.pointer none)] 1)])
    rfl (trace_events1 ps hs) (fun x hx => by obtain ⟨k, hk⟩ := List.getElem?_of_mem hx; obtain ⟨_, _, _, _, _, _, rfl⟩ := evArgs_inv hk; rfl) ⟨by simp [aEid], by omega⟩ ?_ ?_ ?_)
  · rintro k x L' l hx ⟨rfl, hI⟩
    obtain ⟨p, hp, i, hi, hk, hev, rfl⟩ := evArgs_inv hx
    have hfe := hf p hp _ (List.getElem_mem hi)
    have hm := List.getElem_mem hp
    have htk : (evIds ps).take (k + 1) = (evIds ps).take k ++ [(((p : Int), (i : Int) + 1), ps[p].evs[i])] := by
      rw [List.take_succ_eq_append_getElem (List.getElem?_eq_some_iff.1 hev).1]; congr 2; exact (List.getElem?_eq_some_iff.1 hev).2
    have hl : ∀ x ∈ (evIds ps).take k, 0 < x.1.2 := fun x hx => evIds_pos ps x (List.mem_of_mem_take hx)
    generalize ps[p].evs[i] = e at *
    generalize ht : (evIds ps).take k = tk at *
    have hpf : pairF ps k = if e.kind = 2 then if (findIn tk 2 e.msg).2 > 0 then 8 else 0 else if e.kind = 3 then if (findIn tk 3 e.msg).2 > 0 then 8 else if !sendsB ps e.peer e.msg p then 7 else 0 else 0 := by
      simp only [pairF, hev, ht]
    simp only [go_sem]
    repeat ((with_reducible refine And.intro ?_ ?_); focus first | exact True.intro | omega | (intros; (with_reducible and_intros) <;> first | (with_reducible assumption) | omega; done) | (simp; done) | (simp; omega))
    refine AWp.of ?_; simp only [go_sem]
    repeat ((with_reducible refine And.intro ?_ ?_); focus first | exact True.intro | omega | (intros; (with_reducible and_intros) <;> first | (with_reducible assumption) | omega; done) | (simp; done) | (simp; omega))
    intros
    refine AWp.of ?_; simp only [go_sem]
    repeat ((with_reducible refine And.intro ?_ ?_); focus first | exact True.intro | omega | (intros; (with_reducible and_intros) <;> first | (with_reducible assumption) | omega; done) | (simp; done) | (simp; omega))
    intros
    refine AWp.of ?_; simp only [go_sem]
    repeat (first | ((with_reducible refine AWp.ofC ?_ ?_); (focus exact rfl); simp only [go_sem]) | ((with_reducible refine And.intro ?_ ?_); focus first | exact True.intro | omega | (intros; (with_reducible and_intros) <;> first | (with_reducible assumption) | omega; done)))
    refine ⟨fun h1 => ?_, fun h1 => ?_⟩
    · obtain ⟨hm1, hm2, _, _⟩ := formed_msg hfe (.inl h1)
      have c1 := letCells_from tk e.msg hm1 hm2
      simp only [go_sem, c1]
      rw [if_pos h1] at hpf
      repeat (first | ((with_reducible refine AWp.ofC ?_ ?_); (focus exact rfl); simp only [go_sem]) | ((with_reducible refine And.intro ?_ ?_); focus first | exact True.intro | omega | (intros; (with_reducible and_intros) <;> first | (with_reducible assumption) | omega; done)))
      refine ⟨fun h2 => ?_, fun h2 => ?_⟩
      · refine AWp.drawnT mixed (.step 0 (.step 1 (.step 2 (.step 3 .done .done) .done) .done) (.step 1 (.step 0 (.step 2 (.step 3 .done .done) .done) .done) .done)) (by kernel_rfl) ?_; simp only [go_sem, n25, n24, n23, n35, n34, n45]
        repeat (first | ((with_reducible refine AWp.ofC ?_ ?_); (focus exact rfl); simp only [go_sem]) | ((with_reducible refine And.intro ?_ ?_); focus first | exact True.intro | omega | (intros; (with_reducible and_intros) <;> first | (with_reducible assumption) | omega; done)))
        rw [if_pos h2] at hpf
        exact ⟨_, List.sublist_cons_self _ _, _, 8, by rw [msgF_hit hev hI (by rw [hpf]; decide), hpf], rfl⟩
      · refine AWp.drawn mixed 6 (by kernel_rfl) ?_; simp only [go_sem]
        repeat ((with_reducible refine And.intro ?_ ?_); focus first | exact True.intro | omega | (intros; (with_reducible and_intros) <;> first | (with_reducible assumption) | omega; done) | (simp; done) | (simp; omega))
        rw [if_neg h2] at hpf
        refine ⟨_, List.Sublist.refl _, ?_, ?_⟩
        · rw [letCells_setA tk p (i + 1) e hm1 hm2 h1 (by omega) hl, htk]
        · intro j hj
          by_cases hjk : j = k
          · rw [hjk]; exact hpf
          · exact hI j (by omega)
    · rw [if_neg h1] at hpf
      repeat (first | ((with_reducible refine AWp.ofC ?_ ?_); (focus exact rfl); simp only [go_sem]) | ((with_reducible refine And.intro ?_ ?_); focus first | exact True.intro | omega | (intros; (with_reducible and_intros) <;> first | (with_reducible assumption) | omega; done)))
      refine ⟨fun h2 => ?_, fun h2 => ?_⟩
      · obtain ⟨hm1, hm2, hm3, hm4⟩ := formed_msg hfe (.inr h2)
        have c1 := letCells_to tk e.msg hm1 hm2
        rw [if_pos h2] at hpf
        simp only [go_sem, c1]
        repeat (first | ((with_reducible refine AWp.ofC ?_ ?_); (focus exact rfl); simp only [go_sem]) | ((with_reducible refine And.intro ?_ ?_); focus first | exact True.intro | omega | (intros; (with_reducible and_intros) <;> first | (with_reducible assumption) | omega; done)))
        refine ⟨fun h3 => ?_, fun h3 => ?_⟩
        · refine AWp.drawnT mixed (.step 0 (.step 1 (.step 2 (.step 3 .done .done) .done) .done) (.step 1 (.step 0 (.step 2 (.step 3 .done .done) .done) .done) .done)) (by kernel_rfl) ?_; simp only [go_sem, n25, n24, n23, n35, n34, n45]
          repeat (first | ((with_reducible refine AWp.ofC ?_ ?_); (focus exact rfl); simp only [go_sem]) | ((with_reducible refine And.intro ?_ ?_); focus first | exact True.intro | omega | (intros; (with_reducible and_intros) <;> first | (with_reducible assumption) | omega; done)))
          rw [if_pos h3] at hpf
          exact ⟨_, List.sublist_cons_self _ _, _, 8, by rw [msgF_hit hev hI (by rw [hpf]; decide), hpf], rfl⟩
        · rw [if_neg h3] at hpf
          repeat (first | ((with_reducible refine AWp.ofC ?_ ?_); (focus exact rfl); simp only [go_sem]) | ((with_reducible refine And.intro ?_ ?_); focus first | exact True.intro | omega | (intros; (with_reducible and_intros) <;> first | (with_reducible assumption) | omega; done)))
          have hpn : e.peer.toNat < ps.length := by omega
          have hpe : ((e.peer.toNat : Nat) : Int) = e.peer := Int.toNat_of_nonneg hm3
          have hsd := trace_sends ps hs e.peer.toNat hpn e.msg p
          rw [hpe] at hsd
          have hsb : sendsB ps e.peer e.msg p = (ps[e.peer.toNat].evs.any fun x => decide (x.kind = 2) && decide (x.msg = e.msg) && decide (x.peer = p)) := by
            simp only [sendsB, List.getElem?_eq_getElem hpn]
          rw [← hsb] at hsd
          repeat ((with_reducible refine And.intro ?_ ?_); focus first | exact True.intro | omega | (intros; (with_reducible and_intros) <;> first | (with_reducible assumption) | omega; done) | (simp; done) | (simp; omega))
          refine (hsd).val.use ?_; simp only [go_sem]
          repeat (first | ((with_reducible refine AWp.ofC ?_ ?_); (focus exact rfl); simp only [go_sem]) | ((with_reducible refine And.intro ?_ ?_); focus first | exact True.intro | omega | (intros; (with_reducible and_intros) <;> first | (with_reducible assumption) | omega; done)))
          refine ⟨fun h4 => ?_, fun h4 => ?_⟩
          · refine AWp.drawnT mixed (.step 0 (.step 1 (.step 2 (.step 3 .done .done) .done) .done) (.step 1 (.step 0 (.step 2 (.step 3 .done .done) .done) .done) .done)) (by kernel_rfl) ?_; simp only [go_sem, n25, n24, n23, n35, n34, n45]
            repeat (first | ((with_reducible refine AWp.ofC ?_ ?_); (focus exact rfl); simp only [go_sem]) | ((with_reducible refine And.intro ?_ ?_); focus first | exact True.intro | omega | (intros; (with_reducible and_intros) <;> first | (with_reducible assumption) | omega; done)))
            rw [if_pos (by simp [h4])] at hpf
            exact ⟨_, List.sublist_cons_self _ _, _, 7, by rw [msgF_hit hev hI (by rw [hpf]; decide), hpf], rfl⟩
          · refine AWp.drawn mixed 6 (by kernel_rfl) ?_; simp only [go_sem]
            repeat ((with_reducible refine And.intro ?_ ?_); focus first | exact True.intro | omega | (intros; (with_reducible and_intros) <;> first | (with_reducible assumption) | omega; done) | (simp; done) | (simp; omega))
            rw [if_neg (by simp [h4])] at hpf
            refine ⟨_, List.Sublist.refl _, ?_, ?_⟩
            · rw [letCells_setB tk p (i + 1) e hm1 hm2 h2 (by omega) hl, htk]
            · intro j hj
              by_cases hjk : j = k
              · rw [hjk]; exact hpf
              · exact hI j (by omega)
      · rw [if_neg h2] at hpf
        refine ⟨_, List.Sublist.refl _, ?_, ?_⟩
        · rw [htk, letCells_same _ _ _ h1 h2]
        · intro j hj
          by_cases hjk : j = k
          · rw [hjk]; exact hpf
          · exact hI j (by omega)
  · rintro L' ⟨rfl, hI⟩
    simp only [go_sem]
    repeat (first | ((with_reducible refine AWp.ofC ?_ ?_); (focus exact rfl); simp only [go_sem, n25, n24, n23, n35, n34, n45]) | ((with_reducible refine And.intro ?_ ?_); focus first | exact True.intro | omega | (intros; (with_reducible and_intros) <;> first | (with_reducible assumption) | omega; done)))
    have hlen : (evArgs ps).length = (evIds ps).length := by unfold evArgs; rw [List.length_map]
    have hm : aMsg ps = .tup [aLet ps, aEid (0, 0), ai 0] := by
      unfold aMsg; rw [msgF_none (fun k hk => hI k (by omega))]
    rw [hm]
    refine ret_view [true] ?_
    simp only [go_sem, n25, n24, n23, n35, n34, n45]
    refine Vw.mkTup (Vws.cons ?_ (Vws.refl _))
    unfold aLet
    rw [hlen, List.take_length]
    exact Vw.ofLp (if_pos rfl)
  · rintro e L' ⟨he, id, n, hm, rfl⟩
    subst he
    show retK _ _ _ _ _
    have hm : aMsg ps = .tup [.v (.pointer none), aEid id, ai n] := by unfold aMsg; rw [hm]
    rw [hm]
    refine ret_eq ?_
    simp only [go_sem, n25, n24, n23, n35, n34, n45]
attribute [go_sem] aLet
end Go.AL
