/- The package trace, sixth part: cycles are found. No condition. -/
import Derived.Test.YtkfkdmefabefkaaWCyc
namespace Go.AL
open Go Go.RowKit
set_option maxRecDepth 4000
def VEv (ps : List Pr) (x : Eid) : Prop := ∃ (p : Nat) (hp : p < ps.length) (i : Nat) (_ : i < ps[p].evs.length), x = ((p : Int), (i : Int) + 1)
def Nx (ps : List Pr) (x y : Eid) : Prop := y ∈ afterL ps x
def Reach (ps : List Pr) : Eid → Eid → Prop := Relation.TransGen (Nx ps)
theorem VEv.mem {ps : List Pr} {x : Eid} (h : VEv ps x) : x ∈ (evIds ps).map (·.1) := by
  obtain ⟨p, hp, i, hi, rfl⟩ := h
  exact List.mem_map.2 ⟨_, List.mem_of_getElem? (evIds_get hp hi), rfl⟩
theorem findIn_mem {l : List (Eid × Ev)} {kind m : Int} (h : 0 < (findIn l kind m).2) : ∃ e, (findIn l kind m, e) ∈ l ∧ e.kind = kind ∧ e.msg = m := by
  unfold findIn at *
  cases hf : l.find? (fun x => decide (x.2.kind = kind) && decide (x.2.msg = m)) with
  | none => rw [hf] at h; simp at h
  | some x =>
    have h1 := List.mem_of_find?_eq_some hf
    have h2 := List.find?_some hf
    simp only [Bool.and_eq_true, decide_eq_true_eq] at h2
    exact ⟨x.2, h1, h2.1, h2.2⟩
theorem VEv.of_mem {ps : List Pr} {x : Eid × Ev} (h : x ∈ evIds ps) : VEv ps x.1 := by
  obtain ⟨k, hk⟩ := List.getElem?_of_mem h
  obtain ⟨p, hp, i, hi, _, rfl⟩ := evIds_inv hk
  exact ⟨p, hp, i, hi, rfl⟩
theorem Nx.valid {ps : List Pr} {x y : Eid} (h : Nx ps x y) (hx : VEv ps x) : VEv ps y := by
  obtain ⟨p, hp, i, hi, rfl⟩ := hx
  unfold Nx afterL at h
  simp only [Int.toNat_natCast, List.getElem?_eq_getElem hp, show ((i : Int) + 1 - 1).toNat = i by omega, List.getElem?_eq_getElem hi, List.mem_append] at h
  rcases h with h | h
  · split at h
    · simp only [List.mem_singleton] at h
      exact ⟨p, hp, i + 1, by omega, by rw [h]; simp⟩
    · cases h
  · split at h
    · rename_i hc
      simp only [List.mem_singleton] at h
      obtain ⟨e, hm, _⟩ := findIn_mem hc.2
      rw [h]; exact VEv.of_mem hm
    · cases h
theorem Reach.valid {ps : List Pr} {x y : Eid} (h : Reach ps x y) (hx : VEv ps x) : VEv ps y := by
  induction h with
  | single h => exact h.valid hx
  | tail _ h ih => exact h.valid ih
open Classical in
noncomputable def cycF (ps : List Pr) : Option Eid := ((evIds ps).find? fun x => decide (Reach ps x.1 x.1)).map (·.1)
/-- The search from id: 'rest' is still to be looked at, x of it is looked at up to its successor j. -/
structure Dfs (ps : List Pr) (id : Eid) (x : Option Eid) (j : Nat) (rest seen : List Eid) : Prop where
  reach : ∀ y ∈ seen, Reach ps id y
  sub : ∀ y ∈ rest, y = id ∨ y ∈ seen
  nid : id ∉ seen
  nodup : seen.Nodup
  closed : ∀ z, (z = id ∨ z ∈ seen) → z ∉ rest → x ≠ some z → ∀ y, Nx ps z y → y ∈ seen
  part : ∀ z, x = some z → (z = id ∨ z ∈ seen) ∧ ∀ i y, i < j → (afterL ps z)[i]? = some y → y ∈ seen
  size : rest.length + x.isSome.toNat ≤ seen.length + 1
theorem Dfs.start (ps : List Pr) (id : Eid) : Dfs ps id none 0 [id] [] :=
  ⟨by simp, by simp, by simp, .nil, fun z hz hn => by simp at hz; subst hz; simp at hn, fun z h => (by cases h), by simp⟩
theorem Dfs.pop {ps : List Pr} {id x : Eid} {rest seen : List Eid} (h : Dfs ps id none 0 (rest ++ [x]) seen) : Dfs ps id (some x) 0 rest seen :=
  ⟨h.reach, fun y hy => h.sub y (List.mem_append_left _ hy), h.nid, h.nodup, fun z hz hn hx => h.closed z hz (by
      simp only [List.mem_append, List.mem_singleton, not_or]
      exact ⟨hn, fun e => hx (by rw [e])⟩) (by simp), fun z hz => ⟨by cases hz; exact h.sub x (by simp), fun i y hi => by omega⟩, by have := h.size; simp at this ⊢; omega⟩
theorem Dfs.skip {ps : List Pr} {id x y : Eid} {j : Nat} {rest seen : List Eid} (h : Dfs ps id (some x) j rest seen) (hy : (afterL ps x)[j]? = some y) (hs : y ∈ seen) : Dfs ps id (some x) (j + 1) rest seen :=
  ⟨h.reach, h.sub, h.nid, h.nodup, h.closed, fun z hz => ⟨(h.part z hz).1, fun i w hi hw => by
    by_cases e : i = j
    · subst e; cases hz; rw [hy] at hw; cases hw; exact hs
    · exact (h.part z hz).2 i w (by omega) hw⟩, h.size⟩
theorem Dfs.push {ps : List Pr} {id x y : Eid} {j : Nat} {rest seen : List Eid} (h : Dfs ps id (some x) j rest seen) (hy : (afterL ps x)[j]? = some y) (hs : y ∉ seen) (hid : y ≠ id) : Dfs ps id (some x) (j + 1) (rest ++ [y]) (seen ++ [y]) := by
  have hnx : Nx ps x y := List.mem_of_getElem? hy
  refine ⟨fun z hz => ?_, fun z hz => ?_, ?_, ?_, fun z hz hn hx w hw => ?_, fun z hz => ?_, by have := h.size; simp at this ⊢; omega⟩
  · rcases List.mem_append.1 hz with hz | hz
    · exact h.reach z hz
    · simp only [List.mem_singleton] at hz; subst hz
      rcases (h.part x rfl).1 with e | hx
      · subst e; exact .single hnx
      · exact .tail (h.reach x hx) hnx
  · rcases List.mem_append.1 hz with hz | hz
    · rcases h.sub z hz with e | hz
      · exact .inl e
      · exact .inr (List.mem_append_left _ hz)
    · exact .inr (List.mem_append_right _ hz)
  · simp only [List.mem_append, List.mem_singleton, not_or]; exact ⟨h.nid, fun e => hid e.symm⟩
  · rw [List.nodup_append]
    exact ⟨h.nodup, by simp, fun a ha b hb e => by simp at hb; subst hb; subst e; exact hs ha⟩
  · simp only [List.mem_append, List.mem_singleton, not_or] at hn
    refine List.mem_append_left _ (h.closed z ?_ hn.1 hx w hw)
    rcases hz with e | hz
    · exact .inl e
    · rcases List.mem_append.1 hz with hz | hz
      · exact .inr hz
      · simp only [List.mem_singleton] at hz; exact absurd hz hn.2
  · refine ⟨?_, fun i w hi hw => ?_⟩
    · rcases (h.part z hz).1 with e | hz
      · exact .inl e
      · exact .inr (List.mem_append_left _ hz)
    · by_cases e : i = j
      · subst e; cases hz; rw [hy] at hw; cases hw; simp
      · exact List.mem_append_left _ ((h.part z hz).2 i w (by omega) hw)
theorem Dfs.next {ps : List Pr} {id x : Eid} {rest seen : List Eid} (h : Dfs ps id (some x) (afterL ps x).length rest seen) : Dfs ps id none 0 rest seen :=
  ⟨h.reach, h.sub, h.nid, h.nodup, fun z hz hn _ w hw => by
    by_cases e : z = x
    · subst e
      obtain ⟨i, hi⟩ := List.getElem?_of_mem hw
      exact (h.part z rfl).2 i w (List.getElem?_eq_some_iff.1 hi).1 hi
    · exact h.closed z hz hn (fun e' => e (by cases e'; rfl)) w hw, fun z hz => (by cases hz), by have := h.size; simp at this ⊢; omega⟩
theorem Dfs.found {ps : List Pr} {id x : Eid} {j : Nat} {rest seen : List Eid} (h : Dfs ps id (some x) j rest seen) (hy : (afterL ps x)[j]? = some id) : Reach ps id id := by
  have hnx : Nx ps x id := List.mem_of_getElem? hy
  rcases (h.part x rfl).1 with e | hx
  · subst e; exact .single hnx
  · exact .tail (h.reach x hx) hnx
theorem Dfs.none {ps : List Pr} {id : Eid} {seen : List Eid} (h : Dfs ps id none 0 [] seen) : ¬ Reach ps id id := by
  have key : ∀ y, Reach ps id y → y ∈ seen := fun y hy => by
    induction hy with
    | single hn => exact h.closed id (.inl rfl) (by simp) (by simp) _ hn
    | tail _ hn ih => exact h.closed _ (.inr ih) (by simp) (by simp) _ hn
  exact fun hr => h.nid (key id hr)
theorem Dfs.small {ps : List Pr} {id : Eid} {x : Option Eid} {j : Nat} {rest seen : List Eid} (h : Dfs ps id x j rest seen) (hv : VEv ps id) : seen.length ≤ (evIds ps).length := by
  have := List.Nodup.length_le_of_subset h.nodup (l₂ := (evIds ps).map (·.1)) (fun y hy => ((h.reach y hy).valid hv).mem)
  simpa using this
theorem evIds_small {ps : List Pr} (hs : Sm ps) : (evIds ps).length ≤ 1000000000000 := by
  rw [evIds_length]
  have key : ∀ n, n ≤ ps.length → off ps n ≤ n * 1000000 := by
    intro n
    induction n with
    | zero => intro _; simp [off]
    | succ n ih =>
      intro hn
      rw [off_succ (by omega)]
      have := ih (by omega)
      have := hs.evs _ (List.getElem_mem (show n < ps.length by omega))
      omega
  have := key _ (Nat.le_refl _)
  have := hs.procs
  omega
/-! ### Sets of events, as maps in the memory -/
def eidV (x : Eid) : Value := .agg [Value.int .i64 x.1, Value.int .i64 x.2].toArray
def aSet (s : List Eid) : ABlk := .amap (s.map eidV) (s.map fun _ => ab true)
theorem keyB_eid (x y : Eid) : keyB (eidV x) (eidV y) = decide (x = y) := by
  obtain ⟨a, b⟩ := x
  obtain ⟨c, d⟩ := y
  simp [keyB, eidV, veqs, veq]
theorem mfind_set (y : Eid) (s : List Eid) : (mfind (eidV y) (s.map eidV)).isSome = decide (y ∈ s) ∧ ∀ i, mfind (eidV y) (s.map eidV) = some i → i < s.length := by
  induction s with
  | nil => exact ⟨by simp [mfind], fun i h => by simp [mfind] at h⟩
  | cons x s ih =>
    simp only [List.map_cons, mfind, keyB_eid, decide_eq_true_eq]
    by_cases h : y = x
    · rw [if_pos h]; exact ⟨by simp [h], fun i hi => by cases hi; simp⟩
    · rw [if_neg h]
      cases hf : mfind (eidV y) (s.map eidV) with
      | none => rw [hf] at ih; exact ⟨by simp [h]; simpa using ih.1, fun i hi => by cases hi⟩
      | some k => rw [hf] at ih; exact ⟨by simp [h]; simpa using ih.1, fun i hi => by cases hi; simpa using ih.2 k rfl⟩
theorem mget_set (y : Eid) (s : List Eid) : mget (eidV y) (s.map eidV) (s.map fun _ => ab true) (ab false) = ab (decide (y ∈ s)) := by
  obtain ⟨h1, h2⟩ := mfind_set y s
  unfold mget
  cases hf : mfind (eidV y) (s.map eidV) with
  | none => rw [hf] at h1; rw [← h1]; rfl
  | some i =>
    rw [hf] at h1
    rw [← h1]
    show (List.map (fun _ => ab true) s).getD i .any = ab true
    rw [List.getD_eq_getElem?_getD]
    simp [h2 i hf]
theorem mput_set {y : Eid} {s : List Eid} (h : y ∉ s) : mput (eidV y) (ab true) (s.map eidV) (s.map fun _ => ab true) = aSet (s ++ [y]) := by
  have h1 := (mfind_set y s).1
  unfold mput
  cases hf : mfind (eidV y) (s.map eidV) with
  | none => simp [aSet]
  | some i => rw [hf] at h1; simp [h] at h1
theorem fits_eid (y : Eid) : (KK.st [.int, .int]).fits (eidV y) = true := by simp [KK.fits, eidV, vfitss, SK.vfits]
theorem fits_set (s : List Eid) : ((s.map eidV).all (KK.st [.int, .int]).fits) = true := by
  simp only [List.all_map, List.all_eq_true]; intro x _; exact fits_eid x
theorem cycF_hit {ps : List Pr} {k : Nat} {x : Eid × Ev} (hx : (evIds ps)[k]? = some x) (h0 : ∀ (j : Nat) (y : Eid × Ev), j < k → (evIds ps)[j]? = some y → ¬ Reach ps y.1 y.1) (h : Reach ps x.1 x.1) : cycF ps = some x.1 := by
  unfold cycF
  obtain ⟨hk, he⟩ := List.getElem?_eq_some_iff.1 hx
  have : (evIds ps).find? (fun x => @decide (Reach ps x.1 x.1) (Classical.propDecidable _)) = some x := by
    rw [List.find?_eq_some_iff_getElem]
    exact ⟨by simpa using h, k, hk, he, fun j hj => by simpa using h0 j _ hj (List.getElem?_eq_getElem (by omega))⟩
  rw [this]; rfl
theorem cycF_none {ps : List Pr} (h : ∀ (j : Nat) (y : Eid × Ev), (evIds ps)[j]? = some y → ¬ Reach ps y.1 y.1) : cycF ps = none := by
  unfold cycF
  have : (evIds ps).find? (fun x => @decide (Reach ps x.1 x.1) (Classical.propDecidable _)) = none := by
    rw [List.find?_eq_none]
    intro y hy
    obtain ⟨j, hj⟩ := List.getElem?_of_mem hy
    simpa using h j y hj
  rw [this]; rfl
noncomputable def aCyc (ps : List Pr) : AV := match cycF ps with
  | some id => .tup [aEid id, ab true]
  | none => .tup [aEid (0, 0), ab false]
def muCyc (N : Nat) (vs : List AV) (L : AHeap) : Nat := match vs, L with
  | .ls _ _ _ len _ :: _, _ :: (_, .amap ks _) :: _ => 2 * (N - ks.length) + len
  | _, _ => 0
theorem trace_cyclic (ps : List Pr) (hs : Sm ps) (hf : Formed ps) : PC Go.Proofs.Try.prog 61 [aTr ps, aLet ps] (aCyc ps) := by
  refine PC.enter 58 [.cell 4 81, .cell 5 4] [2, 3, 6, 9, 11, 54] Go.Proofs.Try.func61 rfl rfl rfl rfl rfl (by simp) (AWp.of ?_); simp only [go_sem]
  intro b4
  intro b5 h5
  repeat ((with_reducible refine And.intro ?_ ?_); focus first | exact True.intro | omega | (intros; (with_reducible and_intros) <;> first | (with_reducible assumption) | omega; done) | (simp; done) | (simp; omega))
  refine AWp.of ?_; simp only [go_sem]
  repeat ((with_reducible refine And.intro ?_ ?_); focus first | exact True.intro | omega | (intros; (with_reducible and_intros) <;> first | (with_reducible assumption) | omega; done) | (simp; done) | (simp; omega))
  refine (trace_events ps).val.use ?_; simp only [go_sem]
  refine AWp.block (AWp.rangeFunc rfl [2, 3, 4, 5] (evArgs ps) (fun k L => L = [(b5, .row 4 1 [ab false] 1), (b4, .row 81 2 [aEid (0, 0)] 1)] ∧ ∀ (j : Nat) (y : Eid × Ev), j < k → (evIds ps)[j]? = some y → ¬ Reach ps y.1 y.1)
    (fun e L => e = .ret ∧ ∃ id, cycF ps = some id ∧ L = [(b5, .row 4 1 [ab true] 1), (b4, .row 81 2 [aEid id] 1)])
    rfl (trace_events1 ps hs) (fun x hx => by obtain ⟨k, hk⟩ := List.getElem?_of_mem hx; obtain ⟨_, _, _, _, _, _, rfl⟩ := evArgs_inv hk; rfl) ⟨by simp [aEid], by omega⟩ ?_ ?_ ?_)
  · rintro k x L' l hx ⟨rfl, hI⟩
    obtain ⟨p, hp, i, hi, hk, hev, rfl⟩ := evArgs_inv hx
    have hv : VEv ps ((p : Int), (i : Int) + 1) := ⟨p, hp, i, hi, rfl⟩
    generalize hid : (((p : Int), (i : Int) + 1) : Eid) = id at *
    have hid1 : (p : Int) = id.1 := by rw [← hid]
    have hid2 : (i : Int) + 1 = id.2 := by rw [← hid]
    simp only [go_sem]
    repeat ((with_reducible refine And.intro ?_ ?_); focus first | exact True.intro | omega | (intros; (with_reducible and_intros) <;> first | (with_reducible assumption) | omega; done) | (simp; done) | (simp; omega))
    refine AWp.of ?_; simp only [go_sem]
    repeat ((with_reducible refine And.intro ?_ ?_); focus first | exact True.intro | omega | (intros; (with_reducible and_intros) <;> first | (with_reducible assumption) | omega; done) | (simp; done) | (simp; omega))
    intros
    refine AWp.of ?_; simp only [go_sem]
    intro bm _ _
    repeat ((with_reducible refine And.intro ?_ ?_); focus first | exact True.intro | omega | (intros; (with_reducible and_intros) <;> first | (with_reducible assumption) | omega; done) | (simp; done) | (simp; omega))
    refine AWp.of ?_; simp only [go_sem]
    intro bs _ _ _
    have n45 : ¬ b4 = b5 := by omega
    have nm5 : ¬ bm = b5 := by omega
    have nm4 : ¬ bm = b4 := by omega
    have nm5' : ¬ b5 = bm := by omega
    have nm4' : ¬ b4 = bm := by omega
    refine AWp.block (AWp.loop [8] [2, 3, 4, 5, 6, 7] (fun vs L => ∃ rest seen junk b cap, vs = [.ls b 2 0 rest.length cap] ∧ L = [(b, .row 81 2 ((rest ++ junk).map aEid) cap), (bm, aSet seen), (b5, .row 4 1 [ab false] 1), (b4, .row 81 2 [aEid (0, 0)] 1)] ∧
      Dfs ps id none 0 rest seen ∧ rest.length ≤ cap ∧ b ≠ bm ∧ b ≠ b5 ∧ b ≠ b4) (muCyc (evIds ps).length) ⟨[id], [], [], bs, 1, rfl, rfl, Dfs.start ps id, by simp, by omega, by omega, by omega⟩ ?_)
    rintro vs L' - ⟨rest, seen, junk, b, cap, rfl, rfl, hd, hcap, n1, n2, n3⟩
    have n1' : ¬ bm = b := fun e => n1 e.symm
    have n2' : ¬ b5 = b := fun e => n2 e.symm
    have n3' : ¬ b4 = b := fun e => n3 e.symm
    simp only [go_sem]
    repeat (first | ((with_reducible refine AWp.ofC ?_ ?_); (focus exact rfl); simp only [go_sem]) | ((with_reducible refine And.intro ?_ ?_); focus first | exact True.intro | omega | (intros; (with_reducible and_intros) <;> first | (with_reducible assumption) | omega; done)))
    refine ⟨fun h1 => ?_, fun h1 => ?_⟩
    · have hne : rest ≠ [] := by rintro rfl; simp at h1
      obtain ⟨r, x, rfl⟩ : ∃ r x, rest = r ++ [x] := ⟨rest.dropLast, rest.getLast hne, (List.dropLast_concat_getLast hne).symm⟩
      clear hne h1
      have hlen : (r ++ [x]).length = r.length + 1 := by simp
      have hL : (r ++ [x]) ++ junk = r ++ (x :: junk) := by simp
      rw [hlen] at hcap
      simp only [hlen, hL]
      have e1 : ((r.length + 1 : Nat) : Int) - 1 = (r.length : Int) := by omega
      have e2 : (List.map aEid (r ++ (x :: junk))).getD r.length .any = aEid x := by simp [List.getD_eq_getElem?_getD]
      have hvx : VEv ps x := by
        rcases hd.sub x (by simp) with e | hx
        · rw [e]; exact hv
        · exact (hd.reach x hx).valid hv
      obtain ⟨px, hpx, ix, hix, hxe⟩ := hvx
      have hdp := hd.pop
      have hsm := hdp.small hv
      have hsz := hdp.size
      have hN := evIds_small hs
      simp only [Option.isSome_some, Bool.toNat_true] at hsz
      have haf := trace_after ps hs hf px hpx ix hix
      rw [← hxe] at haf
      have hal : (afterL ps x).length ≤ 2 := by
        unfold afterL
        split
        · split
          · rw [List.length_append]; split <;> split <;> simp
          · simp
        · simp
      repeat ((with_reducible refine And.intro ?_ ?_); focus first | exact True.intro | omega | (intros; (with_reducible and_intros) <;> first | (with_reducible assumption) | omega; done) | (simp; done) | (simp; omega))
      refine AWp.of ?_; simp only [go_sem, e1, e2, n1', n2', n3']
      repeat ((with_reducible refine And.intro ?_ ?_); focus first | exact True.intro | omega | (intros; (with_reducible and_intros) <;> first | (with_reducible assumption) | omega; done) | (simp; done) | (simp; omega))
      intros
      refine AWp.of ?_; simp only [go_sem, e1, e2, n1', n2', n3']
      repeat ((with_reducible refine And.intro ?_ ?_); focus first | exact True.intro | omega | (intros; (with_reducible and_intros) <;> first | (with_reducible assumption) | omega; done) | (simp; done) | (simp; omega))
      refine AWp.of ?_; simp only [go_sem, e1, e2]
      repeat ((with_reducible refine And.intro ?_ ?_); focus first | exact True.intro | omega | (intros; (with_reducible and_intros) <;> first | (with_reducible assumption) | omega; done) | (simp; done) | (simp; omega))
      refine (haf).val.use ?_; simp only [go_sem]
      refine AWp.range' (afterL ps x).length [8] [2, 3, 4, 5, 6, 7, 36, 37] (fun j vs L => ∃ rest seen' junk b cap, vs = [.ls b 2 0 rest.length cap] ∧ L = [(b, .row 81 2 ((rest ++ junk).map aEid) cap), (bm, aSet seen'), (b5, .row 4 1 [ab false] 1), (b4, .row 81 2 [aEid (0, 0)] 1)] ∧
        Dfs ps id (some x) j rest seen' ∧ rest.length ≤ cap ∧ b ≠ bm ∧ b ≠ b5 ∧ b ≠ b4 ∧ 2 * ((evIds ps).length - seen'.length) + rest.length ≤ 2 * ((evIds ps).length - seen.length) + r.length) (by omega) rfl rfl rfl ⟨r, seen, x :: junk, b, cap, rfl, rfl, hdp, by omega, n1, n2, n3, Nat.le_refl _⟩ ?_ ?_
      · rintro j vs L' hj - ⟨rest, seen', junk, b, cap, rfl, rfl, hd, hcap, n1, n2, n3, hmu⟩
        have n1' : ¬ bm = b := fun e => n1 e.symm
        have n2' : ¬ b5 = b := fun e => n2 e.symm
        have n3' : ¬ b4 = b := fun e => n3 e.symm
        have hy : (afterL ps x)[j]? = some (afterL ps x)[j] := List.getElem?_eq_getElem hj
        have hsm' := hd.small hv
        have hsz' := hd.size
        simp only [Option.isSome_some, Bool.toNat_true] at hsz'
        have hid3 : ∀ y : Eid, (y.1 = id.1 ∧ y.2 = id.2) = (y = id) := fun y => by
          apply propext; constructor
          · rintro ⟨h1, h2⟩; exact Prod.ext h1 h2
          · rintro rfl; exact ⟨rfl, rfl⟩
        have hgd : (List.map aEid (afterL ps x)).getD j .any = aEid (afterL ps x)[j] := getD_map hj
        have hkv : Value.agg [Value.int .i64 (afterL ps x)[j].1, Value.int .i64 (afterL ps x)[j].2].toArray = eidV (afterL ps x)[j] := rfl
        generalize hyy : (afterL ps x)[j] = y at *
        have hg := mget_set y seen'
        have hfk := fits_eid y
        have hfs := fits_set seen'
        simp only [go_sem]
        repeat ((with_reducible refine And.intro ?_ ?_); focus first | exact True.intro | omega | (intros; (with_reducible and_intros) <;> first | (with_reducible assumption) | omega; done) | (simp; done) | (simp; omega))
        refine AWp.of ?_; simp only [go_sem, hgd]
        repeat ((with_reducible refine And.intro ?_ ?_); focus first | exact True.intro | omega | (intros; (with_reducible and_intros) <;> first | (with_reducible assumption) | omega; done) | (simp; done) | (simp; omega))
        intros
        refine AWp.of ?_; simp only [go_sem]
        repeat (first | ((with_reducible refine AWp.ofC ?_ ?_); (focus exact rfl); simp only [go_sem, n1', n2', n3', n45, nm5, nm4, nm5', nm4']) | ((with_reducible refine And.intro ?_ ?_); focus first | exact True.intro | omega | (intros; (with_reducible and_intros) <;> first | (with_reducible assumption) | omega; done)))
        refine ⟨fun h1 h2 => ?_, fun h1 => ?_⟩
        · repeat (first | ((with_reducible refine AWp.ofC ?_ ?_); (focus exact rfl); simp only [go_sem, n1', n2', n3', n45, nm5, nm4, nm5', nm4']) | ((with_reducible refine And.intro ?_ ?_); focus first | exact True.intro | omega | (intros; (with_reducible and_intros) <;> first | (with_reducible assumption) | omega; done)))
          have hyi : y = id := Prod.ext h1 h2
          rw [hyi] at hy
          refine ⟨_, List.Sublist.cons _ (List.Sublist.cons _ (List.Sublist.refl _)), id, cycF_hit hev hI (hd.found hy), rfl⟩
        · have hyn : y ≠ id := by rintro rfl; exact h1 rfl rfl
          repeat (first | ((with_reducible refine AWp.ofC ?_ ?_); (focus exact rfl); simp only [go_sem, n1', n2', n3', n45, nm5, nm4, nm5', nm4', aSet, hkv, hfk, hfs, hg]) | ((with_reducible refine And.intro ?_ ?_); focus first | exact True.intro | omega | (intros; (with_reducible and_intros) <;> first | (with_reducible assumption) | omega; done)))
          refine ⟨fun h2 => ?_, fun h2 => ?_⟩
          · have hp := mput_set h2
            repeat (first | ((with_reducible refine AWp.ofC ?_ ?_); (focus exact rfl); simp only [go_sem, n1', n2', n3', n45, nm5, nm4, nm5', nm4', aSet, hkv, hfk, hfs, hg, hp]) | ((with_reducible refine And.intro ?_ ?_); focus first | exact True.intro | omega | (intros; (with_reducible and_intros) <;> first | (with_reducible assumption) | omega; done)))
            repeat ((with_reducible refine And.intro ?_ ?_); focus first | exact True.intro | omega | (intros; (with_reducible and_intros) <;> first | (with_reducible assumption) | omega; done) | (simp; done) | (simp; omega))
            intro b' cap' m1 m2 m3 m4
            refine ⟨_, List.Sublist.refl _, rest ++ [y], seen' ++ [y], [], b', cap', ?_, ?_, hd.push hy h2 hyn, ?_, fun e => m1 e.symm, fun e => m2 e.symm, fun e => m3 e.symm, ?_⟩
            · simp
            · simp [aEid]
            · simpa using m4
            · have := (hd.push hy h2 hyn).small hv
              simp only [List.length_append, List.length_singleton] at this ⊢
              omega
          · exact ⟨_, List.Sublist.refl _, rest, seen', junk, b, cap, rfl, rfl, hd.skip hy h2, hcap, n1, n2, n3, hmu⟩
      · rintro vs L' - ⟨rest, seen', junk, b, cap, rfl, rfl, hd, hcap, n1, n2, n3, hmu⟩
        simp only [go_sem]
        refine ⟨_, List.Sublist.refl _, ⟨rest, seen', junk, b, cap, rfl, rfl, hd.next, hcap, n1, n2, n3⟩, ?_⟩
        simp only [muCyc, aSet, List.length_map]
        omega
    · have hr : rest = [] := by
        cases rest with
        | nil => rfl
        | cons a r => simp at h1
      subst hr
      refine ⟨_, (List.Sublist.cons _ (List.Sublist.cons _ (List.Sublist.refl _))), rfl, fun j y hj hy => ?_⟩
      by_cases e : j = k
      · subst e; rw [hev] at hy; cases hy; exact hd.none
      · exact hI j y (by omega) hy
  · rintro L' ⟨rfl, hI⟩
    have n45 : ¬ b4 = b5 := by omega
    simp only [go_sem]
    repeat (first | ((with_reducible refine AWp.ofC ?_ ?_); (focus exact rfl); simp only [go_sem, n45]) | ((with_reducible refine And.intro ?_ ?_); focus first | exact True.intro | omega | (intros; (with_reducible and_intros) <;> first | (with_reducible assumption) | omega; done)))
    have hm : aCyc ps = .tup [aEid (0, 0), ab false] := by
      unfold aCyc
      rw [cycF_none (fun j y hj => hI j y (by unfold evArgs; rw [List.length_map]; exact (List.getElem?_eq_some_iff.1 hj).1) hj)]
    rw [hm]
    refine ret_eq ?_
    simp only [go_sem, n45]
  · rintro e L' ⟨he, id, hc, rfl⟩
    subst he
    show retK _ _ _ _ _
    have hm : aCyc ps = .tup [aEid id, ab true] := by unfold aCyc; rw [hc]
    rw [hm]
    refine ret_eq ?_
    simp only [go_sem, show ¬ b4 = b5 by omega]
end Go.AL
