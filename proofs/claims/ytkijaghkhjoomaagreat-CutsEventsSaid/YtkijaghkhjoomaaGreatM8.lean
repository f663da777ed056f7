/- Texts of this claim's proof: WRf5, WRf6, WRf7, WRf8, WPd, WPf, WPc, WDl, WPb, WPt, WPe, WVe, WPg, WPh, WRf9, WPj, WPi, WVt, WVb, WJn, WPw, WPw2, WTl, WEf, WEl, WBd, WCl, WRe, WLo, WLp, WLq, WNd, WBs, WSb, WAw, WSr, WOf, WWl. No condition. -/
import Derived.Test.YtkijaghkhjoomaaGreatM7
import Derived.Test.YtkijaghkhjoomaaGreatM6
import Derived.Test.YtkijaghkhjoomaaGreatM5
section
/- The reference of layer 12, fifth part: what comes directly before an event; its past. No condition. -/
namespace Go.AL
open Go Go.RowKit
set_option maxRecDepth 4000
/-! ### The search for a past -/
structure Psr (ps : List Pr) (x : Eid) (seen q : List Eid) : Prop where
  sv : ∀ y ∈ seen, VEv ps y ∧ Reach ps y x
  qv : ∀ y ∈ q, VEv ps y ∧ Reach ps y x
  nodup : seen.Nodup
  c1 : ∀ z, VEv ps z → Nx ps z x → z ∈ seen ∨ z ∈ q
  c2 : ∀ y ∈ seen, ∀ z, VEv ps z → Nx ps z y → z ∈ seen ∨ z ∈ q
  size : q.length ≤ 2 * (seen.length + 1)
theorem dirL_length (ps : List Pr) (p i : Nat) : (dirL ps p i).length ≤ 2 := by
  unfold dirL
  rw [List.length_append]
  have h1 : (if 0 < i then [((p : Int), (i : Int))] else []).length ≤ 1 := by split <;> simp
  have h2 : (if (evq ps p i).kind = 3 then [sndr ps (evq ps p i).msg] else []).length ≤ 1 := by split <;> simp
  omega
theorem Psr.start {ps : List Pr} (hm : msgF ps = none) {p : Nat} (hp : p < ps.length) {i : Nat} (hi : i < ps[p].evs.length) : Psr ps ((p : Int), (i : Int) + 1) [] (dirL ps p i) :=
  ⟨fun y h => (by cases h), fun y h => let ⟨a, b⟩ := (dirL_iff hm hp hi y).1 h; ⟨a, .single b⟩, .nil, fun z h1 h2 => .inr ((dirL_iff hm hp hi z).2 ⟨h1, h2⟩), fun y h => (by cases h), (by have := dirL_length ps p i; simp only [List.length_nil]; omega)⟩
theorem Psr.skip {ps : List Pr} {x y : Eid} {seen q : List Eid} (h : Psr ps x seen (y :: q)) (hy : y ∈ seen) : Psr ps x seen q := by
  have hc : ∀ z, z ∈ seen ∨ z ∈ y :: q → z ∈ seen ∨ z ∈ q := fun z hz => by
    rcases hz with hz | hz
    · exact .inl hz
    · rcases List.mem_cons.1 hz with rfl | hz
      · exact .inl hy
      · exact .inr hz
  exact ⟨h.sv, fun z hz => h.qv z (List.mem_cons_of_mem _ hz), h.nodup, fun z h1 h2 => hc z (h.c1 z h1 h2), fun w hw z h1 h2 => hc z (h.c2 w hw z h1 h2), by have := h.size; simp at this; omega⟩
theorem Reach.head {ps : List Pr} {a b y : Eid} (hr : Reach ps b y) (hn : Nx ps a b) : Reach ps a y := by
  induction hr with
  | single h => exact .tail (.single hn) h
  | tail _ h ih => exact .tail ih h
theorem Psr.mark {ps : List Pr} (hm : msgF ps = none) {x : Eid} {seen q : List Eid} {p : Nat} (hp : p < ps.length) {i : Nat} (hi : i < ps[p].evs.length) (h : Psr ps x seen (((p : Int), (i : Int) + 1) :: q)) (hy : ((p : Int), (i : Int) + 1) ∉ seen) :
    Psr ps x (((p : Int), (i : Int) + 1) :: seen) (q ++ dirL ps p i) := by
  have hyx := h.qv _ List.mem_cons_self
  have hc : ∀ z, z ∈ seen ∨ z ∈ ((p : Int), (i : Int) + 1) :: q → z ∈ ((p : Int), (i : Int) + 1) :: seen ∨ z ∈ q ++ dirL ps p i := fun z hz => by
    rcases hz with hz | hz
    · exact .inl (List.mem_cons_of_mem _ hz)
    · rcases List.mem_cons.1 hz with rfl | hz
      · exact .inl List.mem_cons_self
      · exact .inr (List.mem_append_left _ hz)
  refine ⟨fun z hz => ?_, fun z hz => ?_, List.nodup_cons.2 ⟨hy, h.nodup⟩, fun z h1 h2 => hc z (h.c1 z h1 h2), fun w hw z h1 h2 => ?_, ?_⟩
  · rcases List.mem_cons.1 hz with rfl | hz
    · exact hyx
    · exact h.sv z hz
  · rcases List.mem_append.1 hz with hz | hz
    · exact h.qv z (List.mem_cons_of_mem _ hz)
    · obtain ⟨a, b⟩ := (dirL_iff hm hp hi z).1 hz
      exact ⟨a, hyx.2.head b⟩
  · rcases List.mem_cons.1 hw with rfl | hw
    · exact .inr (List.mem_append_right _ ((dirL_iff hm hp hi z).2 ⟨h1, h2⟩))
    · exact hc z (h.c2 w hw z h1 h2)
  · have h1 := h.size
    have h2 := dirL_length ps p i
    simp only [List.length_cons, List.length_append] at h1 ⊢
    omega
theorem Psr.done {ps : List Pr} {x : Eid} {seen : List Eid} (h : Psr ps x seen []) {z : Eid} (hz : VEv ps z) : z ∈ seen ↔ Reach ps z x := by
  refine ⟨fun hs => (h.sv z hs).2, fun hr => ?_⟩
  have key : ∀ c, Reach ps z c → (c = x ∨ c ∈ seen) → z ∈ seen := fun c hc => by
    induction hc with
    | single hn =>
      rintro (rfl | hc)
      · exact (h.c1 z hz hn).resolve_right (by simp)
      · exact (h.c2 _ hc z hz hn).resolve_right (by simp)
    | @tail b c hb hn ih =>
      have hbv : VEv ps b := Reach.valid hb hz
      rintro (rfl | hc)
      · exact ih (.inr ((h.c1 b hbv hn).resolve_right (by simp)))
      · exact ih (.inr ((h.c2 _ hc b hbv hn).resolve_right (by simp)))
  exact key x hr (.inl rfl)
theorem Psr.small {ps : List Pr} {x : Eid} {seen q : List Eid} (h : Psr ps x seen q) : seen.length ≤ (evIds ps).length := by
  have := List.Nodup.length_le_of_subset h.nodup (l₂ := (evIds ps).map (·.1)) (fun y hy => (h.sv y hy).1.mem)
  simpa using this
/-- The row of a process in the table of a past. -/
def pRow (ps : List Pr) (seen : List Eid) (p : Nat) : List AV := (List.range (nev ps p + 1)).map fun (k : Nat) => ab (decide (((p : Int), (k : Int)) ∈ seen))
theorem pRow_length (ps : List Pr) (seen : List Eid) (p : Nat) : (pRow ps seen p).length = nev ps p + 1 := by simp [pRow]
theorem pRow_get {ps : List Pr} {seen : List Eid} {p k : Nat} (hk : k < nev ps p + 1) : (pRow ps seen p).getD k .any = ab (decide (((p : Int), (k : Int)) ∈ seen)) := map_range_getD hk _
theorem pRow_set {ps : List Pr} {seen : List Eid} {p k : Nat} : (pRow ps seen p).set k (ab true) = pRow ps (((p : Int), (k : Int)) :: seen) p := by
  unfold pRow
  rw [map_range_set]; congr 1; funext j
  by_cases e : j = k
  · subst e; rw [if_pos rfl, decide_eq_true List.mem_cons_self]
  · rw [if_neg e]
    have : (((p : Int), (j : Int)) ∈ ((p : Int), (k : Int)) :: seen) ↔ (((p : Int), (j : Int)) ∈ seen) := by
      rw [List.mem_cons, Prod.mk.injEq]
      exact ⟨fun h => h.resolve_left fun h => e (by omega), .inr⟩
    rw [decide_eq_decide.2 this]
theorem pRow_other {ps : List Pr} {seen : List Eid} {p k q : Nat} (h : q ≠ p) : pRow ps (((p : Int), (k : Int)) :: seen) q = pRow ps seen q := by
  unfold pRow
  congr 1; funext j
  have : (((q : Int), (j : Int)) ∈ ((p : Int), (k : Int)) :: seen) ↔ (((q : Int), (j : Int)) ∈ seen) := by
    rw [List.mem_cons, Prod.mk.injEq]
    exact ⟨fun h' => h'.resolve_left fun h' => h (by omega), .inr⟩
  rw [decide_eq_decide.2 this]
theorem pRow_nil (ps : List Pr) (p : Nat) : pRow ps [] p = List.replicate (nev ps p + 1) (ab false) := by
  unfold pRow; apply List.ext_getElem (by simp); intro i h1 h2; simp
open Classical in
/-- Which events happen before one, as a table. -/
noncomputable def pastA (ps : List Pr) (x : Eid) : AV := .sl 1 ((List.range ps.length).map fun (p : Nat) => .sl 1 ((List.range (nev ps p + 1)).map fun (k : Nat) => ab (decide (VEv ps ((p : Int), (k : Int)) ∧ Reach ps ((p : Int), (k : Int)) x))))
theorem pastA_of {ps : List Pr} {x : Eid} {seen : List Eid} (h : Psr ps x seen []) : AV.sl 1 ((List.range ps.length).map fun p => AV.sl 1 (pRow ps seen p)) = pastA ps x := by
  unfold pastA pRow
  congr 2; funext p; congr 2; funext k
  have : (((p : Int), (k : Int)) ∈ seen) ↔ (VEv ps ((p : Int), (k : Int)) ∧ Reach ps ((p : Int), (k : Int)) x) :=
    ⟨fun hs => h.sv _ hs, fun ⟨h1, h2⟩ => (h.done h1).2 h2⟩
  rw [decide_eq_decide.2 this]
/-! ### Walks -/
theorem ref12_Directly (ps : List Pr) (hs : Sm ps) (p : Nat) (hp : p < ps.length) (i : Nat) (hi : i < ps[p].evs.length) : MCalls Go.Proofs.Tryz.prog 130 [aTr ps, aEid (p, (i : Int) + 1)] [] fun r L => AppSt 55 2 ((dirL ps p i).map aEid) r L := by
  have hel := hs.evs _ (List.getElem_mem hp)
  have hat := ref12_At ps hs p hp i hi
  have hd : dirL ps p i = (if 0 < i then [((p : Int), (i : Int))] else []) ++ (if ps[p].evs[i].kind = 3 then [sndr ps ps[p].evs[i].msg] else []) := by
    unfold dirL; rw [evq_get hp hi]
  have hfd := ref12_Find ps hs 2 ps[p].evs[i].msg
  have hse : findIn (evIds ps) 2 ps[p].evs[i].msg = sndr ps ps[p].evs[i].msg := rfl
  rw [hse] at hfd
  rw [hd]
  generalize ps[p].evs[i] = e at *
  generalize sndr ps e.msg = sd at *
  have e1 : (i : Int) + 1 - 1 = i := by omega
  refine MCalls.enter' 33 [.tmp 4] [2, 3, 6, 17, 30] Go.Proofs.Tryz.func130 rfl rfl rfl rfl rfl (by simp) (AWp.of ?_); simp only [go_sem]
  repeat (first | ((with_reducible refine AWp.ofC ?_ ?_); (focus exact rfl); simp only [go_sem]) | ((with_reducible refine an ?_ ?_); focus exact Au))
  repeat (first | ((with_reducible refine AWp.ofC ?_ ?_); (focus exact rfl); simp only [go_sem]) | ((with_reducible refine an ?_ ?_); focus exact Au))
  refine ⟨fun h1 => ?_, fun h1 => ?_⟩
  · rw [if_pos (show 0 < i by omega)]
    repeat (first | ((with_reducible refine AWp.ofC ?_ ?_); (focus exact rfl); simp only [go_sem, e1]) | ((with_reducible refine an ?_ ?_); focus exact Au))
    repeat ((with_reducible refine an ?_ ?_); focus exact As)
    intro b cap g1
    repeat (first | ((with_reducible refine AWp.ofC ?_ ?_); (focus exact rfl); simp only [go_sem]) | ((with_reducible refine an ?_ ?_); focus exact Au))
    repeat ((with_reducible refine an ?_ ?_); focus exact As)
    refine (hat).val.use ?_; simp only [go_sem]
    repeat ((with_reducible refine an ?_ ?_); focus exact As)
    intro b6 g2
    repeat (first | ((with_reducible refine AWp.ofC ?_ ?_); (focus exact rfl); simp only [go_sem]) | ((with_reducible refine an ?_ ?_); focus exact Au))
    refine ⟨fun h2 => ?_, fun h2 => ?_⟩
    · rw [if_pos h2]
      repeat (first | ((with_reducible refine AWp.ofC ?_ ?_); (focus exact rfl); simp only [go_sem]) | ((with_reducible refine an ?_ ?_); focus exact Au))
      repeat ((with_reducible refine an ?_ ?_); focus exact As)
      refine (hfd).val.use ?_; simp only [go_sem]
      repeat ((with_reducible refine an ?_ ?_); focus exact As)
      intro b2 cap2 g3
      repeat (first | ((with_reducible refine AWp.ofC ?_ ?_); (focus exact rfl); simp only [go_sem]) | ((with_reducible refine an ?_ ?_); focus exact Au))
      refine ret_own ?_
      simp only [go_sem]
      rw [e1]
      exact .row _ [_, _] _
    · rw [if_neg h2]
      repeat (first | ((with_reducible refine AWp.ofC ?_ ?_); (focus exact rfl); simp only [go_sem]) | ((with_reducible refine an ?_ ?_); focus exact Au))
      refine ret_own ?_
      simp only [go_sem]
      rw [e1]
      exact .row _ [_] _
  · rw [if_neg (show ¬ 0 < i by omega)]
    repeat (first | ((with_reducible refine AWp.ofC ?_ ?_); (focus exact rfl); simp only [go_sem]) | ((with_reducible refine an ?_ ?_); focus exact Au))
    repeat ((with_reducible refine an ?_ ?_); focus exact As)
    refine (hat).val.use ?_; simp only [go_sem]
    repeat ((with_reducible refine an ?_ ?_); focus exact As)
    intro b6
    repeat (first | ((with_reducible refine AWp.ofC ?_ ?_); (focus exact rfl); simp only [go_sem]) | ((with_reducible refine an ?_ ?_); focus exact Au))
    refine ⟨fun h2 => ?_, fun h2 => ?_⟩
    · rw [if_pos h2]
      repeat (first | ((with_reducible refine AWp.ofC ?_ ?_); (focus exact rfl); simp only [go_sem]) | ((with_reducible refine an ?_ ?_); focus exact Au))
      repeat ((with_reducible refine an ?_ ?_); focus exact As)
      refine (hfd).val.use ?_; simp only [go_sem]
      repeat ((with_reducible refine an ?_ ?_); focus exact As)
      intro b2 cap2 g3
      repeat (first | ((with_reducible refine AWp.ofC ?_ ?_); (focus exact rfl); simp only [go_sem]) | ((with_reducible refine an ?_ ?_); focus exact Au))
      refine ret_own ?_
      simp only [go_sem]
      exact .row _ [_] _
    · rw [if_neg h2]
      repeat (first | ((with_reducible refine AWp.ofC ?_ ?_); (focus exact rfl); simp only [go_sem]) | ((with_reducible refine an ?_ ?_); focus exact Au))
      refine ret_own ?_
      simp only [go_sem]
      exact .nil
end Go.AL
end
section
/- The reference of layer 12, sixth part: the past of an event. No condition. -/
namespace Go.AL
open Go Go.RowKit
set_option maxRecDepth 4000
/-- A table of rows in the memory: its head in bo. -/
def RSt (n bo cap : Nat) (Y : Nat → List AV) (L : AHeap) : Prop :=
  ∃ (V : Nat → AV) (Ls : Nat → AHeap), L.Perm ((bo, .row 114 1 ((List.range n).map V) cap) :: famL n Ls) ∧ ∀ p, p < n → AppSt 4 1 (Y p) (V p) (Ls p)
theorem RSt.perm {n bo cap : Nat} {Y : Nat → List AV} {L L' : AHeap} (hp : L'.Perm L) (h : RSt n bo cap Y L) : RSt n bo cap Y L' :=
  let ⟨V, Ls, h1, h2⟩ := h
  ⟨V, Ls, hp.trans h1, h2⟩
theorem RSt.open {n bo cap : Nat} {Y : Nat → List AV} {L : AHeap} (h : RSt n bo cap Y L) {p : Nat} (hp : p < n) (hY : 0 < (Y p).length) :
    ∃ (V : Nat → AV) (b cp : Nat) (X : AHeap), L.Perm ((bo, .row 114 1 ((List.range n).map V) cap) :: (b, .row 4 1 (Y p) cp) :: X) ∧ V p = .ls b 1 0 (Y p).length cp ∧
      ∀ (Y' : Nat → List AV) (L' : AHeap), (∀ q, q ≠ p → Y' q = Y q) → (Y' p).length = (Y p).length → L'.Perm ((bo, .row 114 1 ((List.range n).map V) cap) :: (b, .row 4 1 (Y' p) cp) :: X) → RSt n bo cap Y' L' := by
  obtain ⟨V, Ls, h1, h2⟩ := h
  rcases (h2 p hp).inv with ⟨e, _, _⟩ | ⟨b, cp, e1, e2⟩
  · rw [e] at hY; simp at hY
  · have hsp := fam_split hp Ls
    rw [e2] at hsp
    refine ⟨V, b, cp, famR n p Ls, h1.trans (hsp.cons _), e1, fun Y' L' hq hl hL => ?_⟩
    refine ⟨V, fun q => if q = p then [(b, .row 4 1 (Y' p) cp)] else Ls q, ?_, fun q hqn => ?_⟩
    · refine hL.trans (List.Perm.cons _ ?_)
      have hsp := fam_split hp (fun q => if q = p then [(b, ABlk.row 4 1 (Y' p) cp)] else Ls q)
      rw [if_pos rfl, famR_congr (Ls := Ls) (fun q hq => if_neg hq)] at hsp
      exact hsp.symm
    · by_cases e : q = p
      · subst e; dsimp only; rw [if_pos rfl, e1, ← hl]; exact .row _ _ _
      · dsimp only; rw [if_neg e, hq q e]; exact h2 q hqn
/-- A queue of events: the end of a row. -/
def QSt (q : List Eid) (v : AV) (L : AHeap) : Prop :=
  (q = [] ∧ v = anil ∧ L = []) ∨ ∃ b off cap capb xs, v = .ls b 2 off q.length cap ∧ L = [(b, .row 55 2 xs capb)] ∧ (xs.drop off).take q.length = q.map aEid ∧ off + q.length ≤ xs.length ∧ q.length ≤ cap ∧ off + cap = capb
theorem QSt.of {q : List Eid} {v : AV} {L : AHeap} (h : AppSt 55 2 (q.map aEid) v L) (hc : ∀ b cap, L = [(b, .row 55 2 (q.map aEid) cap)] → q.length ≤ cap) : QSt q v L := by
  rcases h.inv with ⟨e1, e2, e3⟩ | ⟨b, cap, e1, e2⟩
  · exact .inl ⟨by simpa using e1, e2, e3⟩
  · refine .inr ⟨b, 0, cap, cap, q.map aEid, by rw [e1, List.length_map], e2, ?_, by simp, hc b cap e2, by omega⟩
    rw [List.drop_zero, List.take_of_length_le (by simp)]
theorem AWp.queue {C : Cfg} {c : Code} {Q : AQ} {ρ : Env} {L Lq L1 : AHeap} {q : List Eid} {v : AV} (hP : L.Perm (Lq ++ L1)) (hA : AppSt 55 2 (q.map aEid) v Lq) (h : QSt q v Lq → AWp C c Q ρ L) : AWp C c Q ρ L := by
  rcases hA.inv with ⟨e1, e2, e3⟩ | ⟨b, cap, e1, e2⟩
  · exact h (.inl ⟨by simpa using e1, e2, e3⟩)
  · subst e2
    refine AWp.rowLe (hP.mem_iff.2 (List.mem_append_left _ (List.mem_singleton_self _))) fun hle => h (QSt.of hA fun b' cap' e => ?_)
    simp only [List.cons.injEq, Prod.mk.injEq, ABlk.row.injEq, and_true] at e
    obtain ⟨_, _, _, _, rfl⟩ := e
    simpa using hle
theorem queue_tail {xs : List AV} {off n : Nat} {a : AV} {l : List AV} (h : (xs.drop off).take (n + 1) = a :: l) : xs.getD off .any = a ∧ (xs.drop (off + 1)).take n = l := by
  have hd : xs.drop (off + 1) = (xs.drop off).drop 1 := by rw [List.drop_drop]
  cases hx : xs.drop off with
  | nil => rw [hx] at h; cases h
  | cons b r =>
    rw [hx] at h
    simp only [List.take_succ_cons, List.cons.injEq] at h
    refine ⟨?_, by rw [hd, hx]; simpa using h.2⟩
    have e : xs[off]? = some b := by
      have := List.getElem?_drop (xs := xs) (i := off) (j := 0)
      rw [hx] at this
      simpa using this.symm
    rw [List.getD_eq_getElem?_getD, e]; exact h.1
theorem ref12_Past (ps : List Pr) (hs : Sm ps) (hm : msgF ps = none) (hn : 1 ≤ ps.length) (p : Nat) (hp : p < ps.length) (i : Nat) (hi : i < ps[p].evs.length) : PC Go.Proofs.Tryz.prog 95 [aTr ps, aEid (p, (i : Int) + 1)] (pastA ps ((p : Int), (i : Int) + 1)) := by
  have hl := hs.procs
  refine PC.enter 75 [.tmp 4] [2, 3, 8, 28, 72] Go.Proofs.Tryz.func95 rfl rfl rfl rfl rfl (by simp) (AWp.of ?_); simp only [go_sem]
  repeat ((with_reducible refine an ?_ ?_); focus exact As)
  refine AWp.of ?_; simp only [go_sem]
  refine AWp.cut [2, 3, 5] (fun vs L => ∃ bo cap, vs = [.rp 1 [aTr ps] 0 0, .rp 2 [aEid (p, (i : Int) + 1)] 0 0, .ls bo 1 0 ps.length cap] ∧ RSt ps.length bo cap (pRow ps []) L) ?_ ?_
  · repeat (first | ((with_reducible refine AWp.ofC ?_ ?_); (focus exact rfl); simp only [go_sem]) | ((with_reducible refine an ?_ ?_); focus exact Au))
    refine AWp.block (AWp.count 6 ps.length [5] [2, 3] (fun k vs L => ∃ v Lv V Ls, vs = [v] ∧ L.Perm (Lv ++ famL k Ls) ∧ AppSt 114 1 ((List.range k).map V) v Lv ∧ ∀ q, q < k → AppSt 4 1 (pRow ps [] q) (V q) (Ls q))
      rfl rfl ⟨anil, [], fun _ => anil, fun _ => [], rfl, .refl _, .nil, fun q hq => by omega⟩ ?_)
    rintro k vs L hk - ⟨v, Lv, V, Ls, rfl, hP, hA, hF⟩
    refine AWp.perm hP ?_
    simp only [go_sem]
    repeat (first | ((with_reducible refine AWp.ofC ?_ ?_); (focus exact rfl); simp only [go_sem]) | ((with_reducible refine an ?_ ?_); focus exact Au))
    refine ⟨fun h1 => ?_, fun h1 => ?_⟩
    · have hkp : k < ps.length := by omega
      have hel := hs.evs _ (List.getElem_mem hkp)
      have e1 : ((ps[k].evs.length : Int) + 1).toNat = nev ps k + 1 := by rw [nev_get hkp]; omega
      have hz : ab false :: List.replicate (nev ps k) (ab false) = pRow ps [] k := by rw [pRow_nil, List.replicate_succ]
      have hzl := pRow_length ps [] k
      -- the family with one row more
      have hfam : ∀ b : Nat, (famL (k + 1) (fun q => if q = k then [(b, ABlk.row 4 1 (pRow ps [] k) (nev ps k + 1))] else Ls q)).Perm ((b, .row 4 1 (pRow ps [] k) (nev ps k + 1)) :: famL k Ls) := fun b => by
        unfold famL
        rw [List.range_succ, List.flatMap_append]
        have e : (List.range k).flatMap (fun q => if q = k then [(b, ABlk.row 4 1 (pRow ps [] k) (nev ps k + 1))] else Ls q) = (List.range k).flatMap Ls :=
          flatMap_ext fun q hq => if_neg (by have := List.mem_range.1 hq; omega)
        rw [e]
        simp only [List.flatMap_cons, List.flatMap_nil, if_true]
        exact List.perm_append_comm (l₂ := [_])
      have hmap : ∀ x, (List.range k ++ [k]).map (fun q => if q = k then x else V q) = (List.range k).map V ++ [x] := fun x => by
        rw [List.map_append]
        congr 1
        · refine List.map_congr_left fun q hq => if_neg (by have := List.mem_range.1 hq; omega)
        · simp
      have hAll : ∀ b : Nat, ∀ q, q < k + 1 → AppSt 4 1 (pRow ps [] q) (if q = k then .ls b 1 0 (nev ps k + 1) (nev ps k + 1) else V q) (if q = k then [(b, ABlk.row 4 1 (pRow ps [] k) (nev ps k + 1))] else Ls q) := fun b q hq => by
        by_cases e : q = k
        · subst e
          rw [if_pos rfl, if_pos rfl]
          have := AppSt.row (t := 4) (k := 1) b (pRow ps [] q) (nev ps q + 1)
          rwa [hzl] at this
        · rw [if_neg e, if_neg e]; exact hF q (by omega)
      have hyl : ((List.range k).map V).length = k := by simp
      generalize (List.range k).map V = ys at *
      rcases hA.inv with ⟨e2, rfl, rfl⟩ | ⟨bv, cap, rfl, rfl⟩
      · repeat ((with_reducible refine an ?_ ?_); focus exact As)
        refine AWp.of ?_; simp only [go_sem, getD_map hkp, e1]
        repeat ((with_reducible refine an ?_ ?_); focus exact As)
        intro b hb b' cap' g1 g2 g3
        rw [hz]
        repeat (first | ((with_reducible refine AWp.ofC ?_ ?_); (focus exact rfl); simp only [go_sem]) | ((with_reducible refine an ?_ ?_); focus exact Au))
        refine ⟨_, List.Sublist.refl _, .ls b' 1 0 1 cap', [(b', .row 114 1 [.ls b 1 0 (nev ps k + 1) (nev ps k + 1)] cap')], _, _, rfl, List.Perm.cons _ (hfam b).symm, ?_, hAll b⟩
        rw [hmap, e2]
        exact .row _ [_] _
      · repeat ((with_reducible refine an ?_ ?_); focus exact As)
        refine AWp.of ?_; simp only [go_sem, getD_map hkp, e1]
        repeat ((with_reducible refine an ?_ ?_); focus exact As)
        intro b hb g0
        have nb : ¬ bv = b := by omega
        simp only [go_sem, nb]
        repeat ((with_reducible refine an ?_ ?_); focus exact As)
        intro b' cap' g1 g2 g3
        rw [hz]
        repeat (first | ((with_reducible refine AWp.ofC ?_ ?_); (focus exact rfl); simp only [go_sem]) | ((with_reducible refine an ?_ ?_); focus exact Au))
        refine ⟨_, List.Sublist.refl _, .ls b' 1 0 (ys.length + 1) cap', [(b', .row 114 1 (ys ++ [.ls b 1 0 (nev ps k + 1) (nev ps k + 1)]) cap')], _, _, rfl, List.Perm.cons _ (hfam b).symm, ?_, hAll b⟩
        rw [hmap]
        have := AppSt.row (t := 114) (k := 1) b' (ys ++ [.ls b 1 0 (nev ps k + 1) (nev ps k + 1)]) cap'
        simpa using this
    · have hkn : k = ps.length := by omega
      subst hkn
      rcases hA.inv with ⟨e2, rfl, rfl⟩ | ⟨bv, cap, rfl, rfl⟩
      · have h9 : ps.length = 0 := by have := congrArg List.length e2; simpa using this
        omega
      · refine ⟨_, List.Sublist.refl _, bv, cap, ?_, V, Ls, .refl _, hF⟩
        simp
  · rintro vs L - ⟨bo, cap, rfl, hR⟩
    have hdir := ref12_Directly ps hs p hp i hi
    simp only [go_sem]
    have hE := evIds_small hs
    refine AWp.cut [2, 5, 7] (fun vs L => ∃ v Lq L1, vs = [.rp 1 [aTr ps] 0 0, .ls bo 1 0 ps.length cap, v] ∧ L.Perm (Lq ++ L1) ∧ AppSt 55 2 ((dirL ps p i).map aEid) v Lq ∧ RSt ps.length bo cap (pRow ps []) L1) ?_ ?_
    · repeat ((with_reducible refine an ?_ ?_); focus exact As)
      refine AWp.of ?_; simp only [go_sem]
      refine ((hdir.val).frame (Lr := L)).mono ?_
      rintro r L' ⟨Lq, rfl, hA⟩
      have hfo := hA.fo
      simp only [go_sem, hfo]
      exact ⟨_, List.Sublist.refl _, r, Lq, L, rfl, .refl _, hA, hR⟩
    · rintro vs L' - ⟨v, Lq, L1, rfl, hP, hA, hR⟩
      refine AWp.queue hP hA fun hQ => ?_
      simp only [go_sem]
      refine AWp.seq (AWp.block (AWp.loopN [7] [2, 5] (fun m vs L => ∃ seen q v Lq L1, vs = [v] ∧ L.Perm (Lq ++ L1) ∧ QSt q v Lq ∧ RSt ps.length bo cap (pRow ps seen) L1 ∧ Psr ps ((p : Int), (i : Int) + 1) seen q ∧ m = 3 * ((evIds ps).length - seen.length) + q.length)
        (3 * ((evIds ps).length - 0) + (dirL ps p i).length) ?_ ?_))
      · exact ⟨[], _, v, Lq, L1, rfl, hP, hQ, hR, Psr.start hm hp hi, rfl⟩
      rintro m vs L - ⟨seen, q, v, Lq, L1, rfl, hP, hQ, hR, hS, rfl⟩
      -- the end, where the queue is empty
      have hend : q = [] → fo v = (True, v) → True := fun _ _ => trivial
      rcases hQ with ⟨rfl, rfl, rfl⟩ | ⟨b, off, cq, capq, xs, rfl, rfl, hxs, hl1, hl2, hl3⟩
      · simp only [go_sem]
        repeat (first | ((with_reducible refine AWp.ofC ?_ ?_); (focus exact rfl); simp only [go_sem]) | ((with_reducible refine an ?_ ?_); focus exact Au))
        intro _
        obtain ⟨V, Ls, hPr, hF⟩ := hR
        have hP2 := hP.trans (List.Perm.append_left _ hPr)
        obtain ⟨Lx, hLx⟩ : ∃ Lx : AHeap, Lx = [] := ⟨_, rfl⟩
        rw [← hLx] at hP2
        refine AWp.nodup fun hnd => ?_
        have hP3 : L.Perm (famL ps.length Ls ++ ((bo, .row 114 1 ((List.range ps.length).map V) cap) :: Lx)) := hP2.trans ((List.perm_append_comm (l₁ := Lx)).trans ((List.perm_append_comm (l₁ := [_])).append_right _ |>.trans (by rw [List.append_assoc]; exact .refl _)))
        have hnd' : ((famL ps.length Ls).map (·.1)).Nodup := by
          have := (hP3.map (·.1)).nodup_iff.1 hnd
          rw [List.map_append, List.nodup_append] at this
          exact this.1
        refine AWp.viewP hP3 (.row (fam_views hnd' hF) (LVw.none _)) [] (by simp) ?_
        simp only [go_sem]
        repeat (first | ((with_reducible refine AWp.ofC ?_ ?_); (focus exact rfl); simp only [go_sem]) | ((with_reducible refine an ?_ ?_); focus exact Au))
        refine ret_view [true] ?_; simp only [go_sem]
        rw [← pastA_of hS]
        exact Vw.ofLs (t := 114) (cap := cap) (if_pos rfl) (by simp)
      · cases q with
        | nil =>
          simp only [go_sem]
          repeat (first | ((with_reducible refine AWp.ofC ?_ ?_); (focus exact rfl); simp only [go_sem]) | ((with_reducible refine an ?_ ?_); focus exact Au))
          intro _
          obtain ⟨V, Ls, hPr, hF⟩ := hR
          have hP2 := hP.trans (List.Perm.append_left _ hPr)
          obtain ⟨Lx, hLx⟩ : ∃ Lx : AHeap, Lx = [(b, .row 55 2 xs capq)] := ⟨_, rfl⟩
          rw [← hLx] at hP2
          refine AWp.nodup fun hnd => ?_
          have hP3 : L.Perm (famL ps.length Ls ++ ((bo, .row 114 1 ((List.range ps.length).map V) cap) :: Lx)) := hP2.trans ((List.perm_append_comm (l₁ := Lx)).trans ((List.perm_append_comm (l₁ := [_])).append_right _ |>.trans (by rw [List.append_assoc]; exact .refl _)))
          have hnd' : ((famL ps.length Ls).map (·.1)).Nodup := by
            have := (hP3.map (·.1)).nodup_iff.1 hnd
            rw [List.map_append, List.nodup_append] at this
            exact this.1
          refine AWp.viewP hP3 (.row (fam_views hnd' hF) (LVw.none _)) [] (by simp) ?_
          simp only [go_sem]
          repeat (first | ((with_reducible refine AWp.ofC ?_ ?_); (focus exact rfl); simp only [go_sem]) | ((with_reducible refine an ?_ ?_); focus exact Au))
          refine ret_view [true] ?_; simp only [go_sem]
          rw [← pastA_of hS]
          exact Vw.ofLs (t := 114) (cap := cap) (if_pos rfl) (by simp)
        | cons y q' =>
          simp only [List.length_cons, List.map_cons] at hxs hl1 hl2
          obtain ⟨hg0, htl⟩ := queue_tail hxs
          have hsz := hS.size
          have hsm := hS.small
          simp only [List.length_cons] at hsz
          obtain ⟨⟨py, hpy, iy, hiy, rfl⟩, hreach⟩ := hS.qv y List.mem_cons_self
          have hnv := nev_get hpy
          have hely := hs.evs _ (List.getElem_mem hpy)
          obtain ⟨V, br, cp, X, hPr, hVr, hcl⟩ := hR.open hpy (by rw [pRow_length]; omega)
          refine AWp.perm (hP.trans (hPr.cons _)) (AWp.nodup fun hnd => ?_)
          obtain ⟨⟨m1, m2⟩, ⟨m3, m4⟩, ⟨m5, m6⟩, _⟩ := nd3 hnd
          have hgV : ((List.range ps.length).map V).getD py .any = .ls br 1 0 (nev ps py + 1) cp := by rw [map_range_getD hpy, hVr, pRow_length]
          have hgr : (pRow ps seen py).getD ((iy : Int) + 1).toNat .any = ab (decide (((py : Int), (iy : Int) + 1) ∈ seen)) := by
            have e : ((iy : Int) + 1).toNat = iy + 1 := by omega
            rw [e, pRow_get (by omega)]; simp
          have hrl := pRow_length ps seen py
          simp only [go_sem]
          repeat (first | ((with_reducible refine AWp.ofC ?_ ?_); (focus exact rfl); simp only [go_sem]) | ((with_reducible refine an ?_ ?_); focus exact Au))
          refine ⟨fun _ => ?_, fun h => (by exfalso; omega)⟩
          repeat (first | ((with_reducible refine AWp.ofC ?_ ?_); (focus exact rfl); simp only [go_sem, hg0]) | ((with_reducible refine an ?_ ?_); focus exact Au))
          repeat ((with_reducible refine an ?_ ?_); focus exact As)
          intro b8 h8 h9 h10 h11
          repeat (first | ((with_reducible refine AWp.ofC ?_ ?_); (focus exact rfl); simp only [go_sem]) | ((with_reducible refine an ?_ ?_); focus exact Au))
          refine AWp.seq (AWp.seq ?_)
          refine AWp.mix mixed [0, 1, 2, 3, 5, 6] (.step 4 (.step 7 (.step 8 .done .done) .done) .done) (by kernel_rfl) ?_; simp only [go_sem, m2, m4, m5, m6, hgV, hgr, hrl, List.length_range]
          repeat ((with_reducible refine an ?_ ?_); focus exact As)
          repeat (first | ((with_reducible refine AWp.ofC ?_ ?_); (focus exact rfl); simp only [go_sem]) | ((with_reducible refine an ?_ ?_); focus exact Au))
          refine ⟨fun h1 => ?_, fun h1 => ?_⟩
          · repeat (first | ((with_reducible refine AWp.ofC ?_ ?_); (focus exact rfl); simp only [go_sem]) | ((with_reducible refine an ?_ ?_); focus exact Au))
            refine ⟨_, List.Sublist.refl _, 3 * ((evIds ps).length - seen.length) + q'.length, by omega, seen, q', _, [(b, .row 55 2 xs capq)], (bo, .row 114 1 ((List.range ps.length).map V) cap) :: (br, .row 4 1 (pRow ps seen py) cp) :: X, rfl, .refl _, ?_, hR.perm hPr.symm, hS.skip h1, rfl⟩
            exact .inr ⟨b, off + 1, cq - 1, capq, xs, by rw [Nat.add_sub_cancel], rfl, htl, by omega, by omega, by omega⟩
          · have hset : (pRow ps seen py).set ((iy : Int) + 1).toNat (ab true) = pRow ps (((py : Int), (iy : Int) + 1) :: seen) py := by
              have e : ((iy : Int) + 1).toNat = iy + 1 := by omega
              rw [e]; exact pRow_set
            have hR2 : RSt ps.length bo cap (pRow ps (((py : Int), (iy : Int) + 1) :: seen)) ((bo, .row 114 1 ((List.range ps.length).map V) cap) :: (br, .row 4 1 (pRow ps (((py : Int), (iy : Int) + 1) :: seen) py) cp) :: X) :=
              hcl _ _ (fun q hq => pRow_other (k := iy + 1) hq) (by rw [pRow_length, pRow_length]) (.refl _)
            have hmk := Psr.mark hm hpy hiy hS h1
            have hdir2 := ref12_Directly ps hs py hpy iy hiy
            have hd2 := dirL_length ps py iy
            have hms := hmk.small
            simp only [List.length_cons] at hms
            refine AWp.seq ?_
            refine AWp.mix mixed [0, 1, 2, 3, 5, 6] (.step 4 (.step 7 (.step 8 .done .done) .done) .done) (by kernel_rfl) ?_; simp only [go_sem, m2, m4, m5, m6, hgV, hgr, hrl, List.length_range]
            repeat ((with_reducible refine an ?_ ?_); focus exact As)
            rw [hset]
            generalize dirL ps py iy = dl at *
            obtain ⟨LR, hLR⟩ : ∃ LR : AHeap, LR = (bo, .row 114 1 ((List.range ps.length).map V) cap) :: (br, .row 4 1 (pRow ps (((py : Int), (iy : Int) + 1) :: seen) py) cp) :: X := ⟨_, rfl⟩
            rw [← hLR] at hR2 ⊢
            repeat (first | ((with_reducible refine AWp.ofC ?_ ?_); (focus exact rfl); simp only [go_sem]) | ((with_reducible refine an ?_ ?_); focus exact Au))
            refine ((hdir2.val).frame (Lr := (b, .row 55 2 xs capq) :: LR)).mono ?_
            rintro r L' ⟨Ln, rfl, hAn⟩
            have hfo := hAn.fo
            simp only [go_sem, hfo]
            refine AWp.viewP (Lf := Ln) (Lk := (b, .row 55 2 xs capq) :: LR) (.refl _) (LVw.refl _) [(9, .sl 2 (dl.map aEid))] ?_ ?_
            · intro q hq
              simp only [List.mem_singleton] at hq
              subst hq
              have := hAn.vw []
              rw [List.append_nil] at this
              show Vw Ln _ (.sl 2 (dl.map aEid))
              simpa only [get, if_true] using this
            simp only [go_sem]
            repeat (first | ((with_reducible refine AWp.ofC ?_ ?_); (focus exact rfl); simp only [go_sem]) | ((with_reducible refine an ?_ ?_); focus exact Au))
            refine AWp.block (AWp.count 10 dl.length [7] [2, 5, 9] (fun j vs L => ∃ v Lq L1, vs = [v] ∧ L.Perm (Lq ++ L1) ∧ QSt (q' ++ dl.take j) v Lq ∧ RSt ps.length bo cap (pRow ps (((py : Int), (iy : Int) + 1) :: seen)) L1) rfl rfl ?_ ?_)
            · refine ⟨_, [(b, .row 55 2 xs capq)], LR, rfl, .refl _, ?_, hR2⟩
              rw [List.take_zero, List.append_nil]
              exact .inr ⟨b, off + 1, cq - 1, capq, xs, rfl, rfl, htl, by omega, by omega, by omega⟩
            rintro j vs L hj - ⟨w, Lw, L2, rfl, hPw, hQw, hRw⟩
            refine AWp.perm hPw ?_
            simp only [go_sem]
            repeat (first | ((with_reducible refine AWp.ofC ?_ ?_); (focus exact rfl); simp only [go_sem]) | ((with_reducible refine an ?_ ?_); focus exact Au))
            refine ⟨fun h2 => ?_, fun h2 => ?_⟩
            · have hjd : j < dl.length := by omega
              have hgj := getD_map (f := aEid) hjd
              have hsu : q' ++ dl.take (j + 1) = (q' ++ dl.take j) ++ [dl[j]] := by rw [List.take_succ_eq_append_getElem hjd, List.append_assoc]
              have hql : (q' ++ dl.take j).length ≤ q'.length + 2 := by rw [List.length_append, List.length_take]; omega
              obtain ⟨qq, hqq⟩ : ∃ qq, q' ++ dl.take j = qq := ⟨_, rfl⟩
              rw [hqq] at hQw hsu hql
              generalize dl[j] = z at *
              rcases hQw with ⟨rfl, rfl, rfl⟩ | ⟨bw, ow, cw, capw, ys, rfl, rfl, hys, y1, y2, y3⟩
              · repeat ((with_reducible refine an ?_ ?_); focus exact As)
                refine AWp.of ?_; simp only [go_sem, hgj]
                repeat ((with_reducible refine an ?_ ?_); focus exact As)
                intro b' cap' g1 g2
                repeat (first | ((with_reducible refine AWp.ofC ?_ ?_); (focus exact rfl); simp only [go_sem]) | ((with_reducible refine an ?_ ?_); focus exact Au))
                refine ⟨_, List.Sublist.refl _, .ls b' 2 0 1 cap', [(b', .row 55 2 [aEid z] cap')], L2, rfl, .refl _, .inr ⟨b', 0, cap', cap', [aEid z], by rw [hsu]; rfl, rfl, by rw [hsu]; simp, by rw [hsu]; simp, by rw [hsu]; simpa using g2, by omega⟩, hRw⟩
              · have hzl : (qq ++ [z]).length = qq.length + 1 := by simp
                cases ow with
                | zero =>
                  simp only [Nat.zero_add] at y3 y1
                  subst y3
                  rw [List.drop_zero] at hys
                  repeat ((with_reducible refine an ?_ ?_); focus exact As)
                  refine AWp.of ?_; simp only [go_sem, hgj]
                  repeat ((with_reducible refine an ?_ ?_); focus exact As)
                  intro b' cap' g1 g2
                  repeat (first | ((with_reducible refine AWp.ofC ?_ ?_); (focus exact rfl); simp only [go_sem]) | ((with_reducible refine an ?_ ?_); focus exact Au))
                  refine ⟨_, List.Sublist.refl _, .ls b' 2 0 (qq.length + 1) cap', [(b', .row 55 2 (ys.take qq.length ++ [aEid z]) cap')], L2, rfl, .refl _, .inr ⟨b', 0, cap', cap', _, by rw [hsu, hzl], rfl, ?_, ?_, by rw [hsu, hzl]; exact g2, by omega⟩, hRw⟩
                  · rw [hsu, hys, List.drop_zero, List.take_of_length_le (by simp)]; simp
                  · rw [hsu, hys]; simp
                | succ ow =>
                  repeat ((with_reducible refine an ?_ ?_); focus exact As)
                  refine AWp.of ?_; simp only [go_sem, hgj]
                  repeat ((with_reducible refine an ?_ ?_); focus exact As)
                  refine ⟨fun g2 => ?_, fun b' cap' g1 g2 => ?_⟩
                  · repeat (first | ((with_reducible refine AWp.ofC ?_ ?_); (focus exact rfl); simp only [go_sem]) | ((with_reducible refine an ?_ ?_); focus exact Au))
                    refine ⟨_, List.Sublist.refl _, .ls bw 2 (ow + 1) (qq.length + 1) cw, [(bw, .row 55 2 (ys.take (ow + 1 + qq.length) ++ [aEid z]) capw)], L2, rfl, .refl _, .inr ⟨bw, ow + 1, cw, capw, _, by rw [hsu, hzl], rfl, ?_, ?_, by rw [hsu, hzl]; exact g2, y3⟩, hRw⟩
                    · have hd : (ys.take (ow + 1 + qq.length)).drop (ow + 1) = qq.map aEid := by
                        rw [List.drop_take, Nat.add_sub_cancel_left]; exact hys
                      rw [hsu, List.drop_append_of_le_length (by rw [List.length_take]; omega), hd, List.take_of_length_le (by simp)]; simp
                    · rw [hsu, hzl, List.length_append, List.length_take]; simp only [List.length_cons, List.length_nil]; omega
                  · intro g3
                    repeat (first | ((with_reducible refine AWp.ofC ?_ ?_); (focus exact rfl); simp only [go_sem]) | ((with_reducible refine an ?_ ?_); focus exact Au))
                    refine ⟨_, List.Sublist.refl _, .ls b' 2 0 (qq.length + 1) cap', [(b', .row 55 2 ((ys.drop (ow + 1)).take qq.length ++ [aEid z]) cap')], L2, rfl, .refl _, .inr ⟨b', 0, cap', cap', _, by rw [hsu, hzl], rfl, ?_, ?_, by rw [hsu, hzl]; omega, by omega⟩, hRw⟩
                    · rw [hsu, hys, List.drop_zero, List.take_of_length_le (by simp)]; simp
                    · rw [hsu, hys]; simp
            · repeat (first | ((with_reducible refine AWp.ofC ?_ ?_); (focus exact rfl); simp only [go_sem]) | ((with_reducible refine an ?_ ?_); focus exact Au))
              refine ⟨_, List.Sublist.refl _, 3 * ((evIds ps).length - (seen.length + 1)) + (q' ++ dl).length, ?_, _, _, w, Lw, L2, rfl, .refl _, ?_, hRw, hmk, by simp⟩
              · rw [List.length_append]; omega
              · rwa [List.take_of_length_le (by omega)] at hQw
end Go.AL
end
section
/- The reference of layer 12, last part: Fault and Valid. No condition. -/
namespace Go.AL
open Go Go.RowKit
set_option maxRecDepth 4000
theorem pairF_zero {ps : List Pr} (h : ∀ p (hp : p < ps.length) i (_hi : i < ps[p].evs.length), pairF ps (off ps p + i) = 0) : msgF ps = none := by
  refine msgF_none fun k hk => ?_
  obtain ⟨p, hp, i, hi, e, _⟩ := evIds_inv (List.getElem?_eq_getElem hk)
  rw [e]; exact h p hp i hi
/-- Nothing at fault among the events ahead of a place. -/
def Ahead (ps : List Pr) (f : Nat → Nat → Prop) (p i : Nat) : Prop := (∀ q (hq : q < ps.length) j, q < p → j < ps[q].evs.length → f q j) ∧ ∀ j, j < i → f p j
theorem Ahead.next {ps : List Pr} {f : Nat → Nat → Prop} {p i : Nat} (h : Ahead ps f p i) (hf : f p i) : Ahead ps f p (i + 1) :=
  ⟨h.1, fun j hj => by
    by_cases e : j = i
    · rw [e]; exact hf
    · exact h.2 j (by omega)⟩
theorem Ahead.row {ps : List Pr} {f : Nat → Nat → Prop} {p : Nat} (hp : p < ps.length) (h : Ahead ps f p ps[p].evs.length) : Ahead ps f (p + 1) 0 :=
  ⟨fun q hq j hqp hj => by
    by_cases e : q = p
    · subst e; exact h.2 j hj
    · exact h.1 q hq j (by omega) hj, fun j hj => by omega⟩
theorem Ahead.idx {ps : List Pr} {f : Nat → Nat → Prop} {p i : Nat} (hp : p < ps.length) (hi : i ≤ ps[p].evs.length) (h : Ahead ps f p i) {q j : Nat} (hq : q < ps.length) (hj : j < ps[q].evs.length) (hlt : off ps q + j < off ps p + i) : f q j := by
  have mono : ∀ a b, a ≤ b → b ≤ ps.length → off ps a ≤ off ps b := by
    intro a b hab hb
    induction b with
    | zero => have : a = 0 := by omega
              subst this; exact Nat.le_refl _
    | succ b ih =>
      by_cases e : a = b + 1
      · subst e; exact Nat.le_refl _
      · have := ih (by omega) (by omega)
        rw [off_succ (by omega)]; omega
  by_cases h1 : q < p
  · exact h.1 q hq j h1 hj
  · by_cases h2 : q = p
    · subst h2; exact h.2 j (by omega)
    · have h3 := mono (p + 1) q (by omega) (by omega)
      rw [off_succ hp] at h3
      omega
open Classical in
noncomputable def pastR (ps : List Pr) (x : Eid) (p : Nat) : List AV := (List.range (nev ps p + 1)).map fun (k : Nat) => ab (decide (VEv ps ((p : Int), (k : Int)) ∧ Reach ps ((p : Int), (k : Int)) x))
theorem pastA_eq (ps : List Pr) (x : Eid) : pastA ps x = .sl 1 ((List.range ps.length).map fun p => .sl 1 (pastR ps x p)) := rfl
open Classical in
theorem pastR_get {ps : List Pr} (x : Eid) {p : Nat} (hp : p < ps.length) {i : Nat} (hi : i < ps[p].evs.length) : (pastR ps x p).getD ((i : Int) + 1).toNat .any = ab (decide (Reach ps ((p : Int), (i : Int) + 1) x)) := by
  have e : ((i : Int) + 1).toNat = i + 1 := by omega
  unfold pastR
  rw [e, map_range_getD (by rw [nev_get hp]; omega)]
  have hc : (((i + 1 : Nat) : Int)) = (i : Int) + 1 := rfl
  rw [hc]
  have hv : VEv ps ((p : Int), (i : Int) + 1) := ⟨p, hp, i, hi, rfl⟩
  congr 2
  exact propext ⟨fun h => h.2, fun h => ⟨hv, h⟩⟩
theorem ref12_Fault (ps : List Pr) (hs : Sm ps) : PC Go.Proofs.Tryz.prog 60 [aTr ps] (aFault (faultF ps)) := by
  have hl := hs.procs
  refine PC.enter 137 [.cell 2 55, .tmp 3] [1, 11, 15] Go.Proofs.Tryz.func60 rfl rfl rfl rfl rfl (by simp) (AWp.of ?_); simp only [go_sem]
  intro b2
  repeat (first | ((with_reducible refine AWp.ofC ?_ ?_); (focus exact rfl); simp only [go_sem]) | ((with_reducible refine an ?_ ?_); focus exact Au))
  repeat (first | ((with_reducible refine AWp.ofC ?_ ?_); (focus exact rfl); simp only [go_sem]) | ((with_reducible refine an ?_ ?_); focus exact Au))
  refine ⟨fun h1 => ?_, fun h1 => ?_⟩
  · repeat (first | ((with_reducible refine AWp.ofC ?_ ?_); (focus exact rfl); simp only [go_sem]) | ((with_reducible refine an ?_ ?_); focus exact Au))
    have hf : faultF ps = ((0, 0), 1) := by
      unfold faultF
      rw [if_pos]
      unfold inI
      rw [Bool.not_eq_true', ← Bool.not_eq_true, Bool.and_eq_true, decide_eq_true_eq, decide_eq_true_eq]
      omega
    rw [hf]
    refine ret_eq ?_
    simp only [go_sem]
  · intro h1'
    have hin : ¬ ((!inI ps.length 1 8) = true) := by
      unfold inI
      rw [Bool.not_eq_true', ← Bool.not_eq_true, Bool.and_eq_true, decide_eq_true_eq, decide_eq_true_eq]
      omega
    repeat (first | ((with_reducible refine AWp.ofC ?_ ?_); (focus exact rfl); simp only [go_sem]) | ((with_reducible refine an ?_ ?_); focus exact Au))
    refine AWp.block (AWp.count 4 ps.length [] [1, 2] (fun k vs L => L = [(b2, .row 55 2 [aEid (0, 0)] 1)] ∧ ∀ j, j < k → procF ps j = 0) rfl rfl ⟨by simp [aEid], by omega⟩ ?_)
    rintro k vs L hk - ⟨rfl, hI⟩
    simp only [go_sem]
    repeat (first | ((with_reducible refine AWp.ofC ?_ ?_); (focus exact rfl); simp only [go_sem]) | ((with_reducible refine an ?_ ?_); focus exact Au))
    refine ⟨fun h2 => ?_, fun h2 => ?_⟩
    · have hkp : k < ps.length := by omega
      repeat (first | ((with_reducible refine AWp.ofC ?_ ?_); (focus exact rfl); simp only [go_sem]) | ((with_reducible refine an ?_ ?_); focus exact Au))
      repeat ((with_reducible refine an ?_ ?_); focus exact As)
      refine (ref12_head ps hs k hkp).val.use ?_; simp only [go_sem]
      repeat (first | ((with_reducible refine AWp.ofC ?_ ?_); (focus exact rfl); simp only [go_sem]) | ((with_reducible refine an ?_ ?_); focus exact Au))
      refine ⟨fun h3 => ?_, fun h3 => ?_⟩
      · repeat (first | ((with_reducible refine AWp.ofC ?_ ?_); (focus exact rfl); simp only [go_sem]) | ((with_reducible refine an ?_ ?_); focus exact Au))
        have hf : faultF ps = (((k : Int), 0), procF ps k) := by unfold faultF; rw [if_neg hin, procFirst_hit hkp hI h3]
        rw [hf]
        refine ret_eq ?_
        simp only [go_sem]
      · repeat (first | ((with_reducible refine AWp.ofC ?_ ?_); (focus exact rfl); simp only [go_sem]) | ((with_reducible refine an ?_ ?_); focus exact Au))
        refine ⟨_, List.Sublist.refl _, rfl, fun j hj => ?_⟩
        by_cases e : j = k
        · rw [e]; exact h3
        · exact hI j (by omega)
    · have hpf := procFirst_none (ps := ps) fun j hj => hI j (by omega)
      repeat (first | ((with_reducible refine AWp.ofC ?_ ?_); (focus exact rfl); simp only [go_sem]) | ((with_reducible refine an ?_ ?_); focus exact Au))
      refine AWp.block (AWp.count 6 ps.length [] [1, 2] (fun p vs L => L = [(b2, .row 55 2 [aEid (0, 0)] 1)] ∧ Ahead ps (fun q j => evF ps q j = 0) p 0) rfl rfl ⟨by simp [aEid], fun _ _ _ h => by omega, fun j hj => by omega⟩ ?_)
      rintro p vs L hp - ⟨rfl, hA⟩
      simp only [go_sem]
      repeat (first | ((with_reducible refine AWp.ofC ?_ ?_); (focus exact rfl); simp only [go_sem]) | ((with_reducible refine an ?_ ?_); focus exact Au))
      refine ⟨fun h4 => ?_, fun h4 => ?_⟩
      · have hpp : p < ps.length := by omega
        have hgP := getD_map (f := aPr) hpp
        have hel := hs.evs _ (List.getElem_mem hpp)
        repeat (first | ((with_reducible refine AWp.ofC ?_ ?_); (focus exact rfl); simp only [go_sem]) | ((with_reducible refine an ?_ ?_); focus exact Au))
        refine AWp.block (AWp.count 7 ps[p].evs.length [] [1, 2, 6] (fun i vs L => L = [(b2, .row 55 2 [aEid (0, 0)] 1)] ∧ Ahead ps (fun q j => evF ps q j = 0) p i) rfl rfl ⟨by simp [aEid], hA⟩ ?_)
        rintro i vs L hi - ⟨rfl, hB⟩
        simp only [go_sem]
        repeat (first | ((with_reducible refine AWp.ofC ?_ ?_); (focus exact rfl); simp only [go_sem, hgP]) | ((with_reducible refine an ?_ ?_); focus exact Au))
        refine ⟨fun h5 => ?_, fun h5 => ?_⟩
        · have hie : i < ps[p].evs.length := by omega
          repeat (first | ((with_reducible refine AWp.ofC ?_ ?_); (focus exact rfl); simp only [go_sem]) | ((with_reducible refine an ?_ ?_); focus exact Au))
          repeat ((with_reducible refine an ?_ ?_); focus exact As)
          refine (ref12_form ps hs p hpp i hie).val.use ?_; simp only [go_sem]
          repeat (first | ((with_reducible refine AWp.ofC ?_ ?_); (focus exact rfl); simp only [go_sem]) | ((with_reducible refine an ?_ ?_); focus exact Au))
          refine ⟨fun h6 => ?_, fun h6 => ?_⟩
          · repeat (first | ((with_reducible refine AWp.ofC ?_ ?_); (focus exact rfl); simp only [go_sem]) | ((with_reducible refine an ?_ ?_); focus exact Au))
            have hat : evAt ps ((p : Int), (i : Int) + 1) = evF ps p i := by simp only [evAt, Int.toNat_natCast, show ((i : Int) + 1 - 1).toNat = i by omega]
            have hhit := evFirst_hit (evIds_get hpp hie) (fun j y hj hy => by
              obtain ⟨q, hq, r, hr, e, rfl⟩ := evIds_inv hy
              have := hB.idx hpp (by omega) hq hr (by omega)
              simpa only [evAt, Int.toNat_natCast, show ((r : Int) + 1 - 1).toNat = r by omega] using this) (by rw [hat]; exact h6)
            have hf : faultF ps = (((p : Int), (i : Int) + 1), evF ps p i) := by unfold faultF; rw [if_neg hin, hpf, hhit, hat]
            rw [hf]
            refine ret_eq ?_
            simp only [go_sem]
          · repeat (first | ((with_reducible refine AWp.ofC ?_ ?_); (focus exact rfl); simp only [go_sem]) | ((with_reducible refine an ?_ ?_); focus exact Au))
            exact ⟨_, List.Sublist.refl _, rfl, hB.next h6⟩
        · have e : i = ps[p].evs.length := by omega
          rw [e] at hB
          repeat (first | ((with_reducible refine AWp.ofC ?_ ?_); (focus exact rfl); simp only [go_sem]) | ((with_reducible refine an ?_ ?_); focus exact Au))
          exact ⟨_, List.Sublist.refl _, rfl, hB.row hpp⟩
      · have hpn : p = ps.length := by omega
        have hef : evFirst ps = none := evFirst_none fun j y hy => by
          obtain ⟨q, hq, r, hr, e, rfl⟩ := evIds_inv hy
          have := hA.1 q hq r (by omega) hr
          simpa only [evAt, Int.toNat_natCast, show ((r : Int) + 1 - 1).toNat = r by omega] using this
        have hfm := formed_of_evFirst hef
        clear hA
        repeat (first | ((with_reducible refine AWp.ofC ?_ ?_); (focus exact rfl); simp only [go_sem]) | ((with_reducible refine an ?_ ?_); focus exact Au))
        refine AWp.block (AWp.count 9 ps.length [] [1, 2] (fun p vs L => L = [(b2, .row 55 2 [aEid (0, 0)] 1)] ∧ Ahead ps (fun q j => pairF ps (off ps q + j) = 0) p 0) rfl rfl ⟨by simp [aEid], fun _ _ _ h => by omega, fun j hj => by omega⟩ ?_)
        rintro p vs L hp - ⟨rfl, hA⟩
        simp only [go_sem]
        repeat (first | ((with_reducible refine AWp.ofC ?_ ?_); (focus exact rfl); simp only [go_sem]) | ((with_reducible refine an ?_ ?_); focus exact Au))
        refine ⟨fun h4 => ?_, fun h4 => ?_⟩
        · have hpp : p < ps.length := by omega
          have hgP := getD_map (f := aPr) hpp
          have hel := hs.evs _ (List.getElem_mem hpp)
          repeat (first | ((with_reducible refine AWp.ofC ?_ ?_); (focus exact rfl); simp only [go_sem]) | ((with_reducible refine an ?_ ?_); focus exact Au))
          refine AWp.block (AWp.count 10 ps[p].evs.length [] [1, 2, 9] (fun i vs L => L = [(b2, .row 55 2 [aEid (0, 0)] 1)] ∧ Ahead ps (fun q j => pairF ps (off ps q + j) = 0) p i) rfl rfl ⟨by simp [aEid], hA⟩ ?_)
          rintro i vs L hi - ⟨rfl, hB⟩
          simp only [go_sem]
          repeat (first | ((with_reducible refine AWp.ofC ?_ ?_); (focus exact rfl); simp only [go_sem, hgP]) | ((with_reducible refine an ?_ ?_); focus exact Au))
          refine ⟨fun h5 => ?_, fun h5 => ?_⟩
          · have hie : i < ps[p].evs.length := by omega
            repeat (first | ((with_reducible refine AWp.ofC ?_ ?_); (focus exact rfl); simp only [go_sem]) | ((with_reducible refine an ?_ ?_); focus exact Au))
            intro b11 _
            repeat (first | ((with_reducible refine AWp.ofC ?_ ?_); (focus exact rfl); simp only [go_sem]) | ((with_reducible refine an ?_ ?_); focus exact Au))
            repeat ((with_reducible refine an ?_ ?_); focus exact As)
            refine (ref12_paired ps hs hfm p hpp i hie).val.use ?_; simp only [go_sem]
            repeat (first | ((with_reducible refine AWp.ofC ?_ ?_); (focus exact rfl); simp only [go_sem]) | ((with_reducible refine an ?_ ?_); focus exact Au))
            refine ⟨fun h6 => ?_, fun h6 => ?_⟩
            · repeat (first | ((with_reducible refine AWp.ofC ?_ ?_); (focus exact rfl); simp only [go_sem]) | ((with_reducible refine an ?_ ?_); focus exact Au))
              have hhit := msgF_hit (evIds_get hpp hie) (fun j hj => by
                have hjl : j < (evIds ps).length := by have := (List.getElem?_eq_some_iff.1 (evIds_get hpp hie)).1; omega
                obtain ⟨q, hq, r, hr, e, _⟩ := evIds_inv (List.getElem?_eq_getElem hjl)
                rw [e]; exact hB.idx hpp (by omega) hq hr (by omega)) h6
              have hf : faultF ps = (((p : Int), (i : Int) + 1), pairF ps (off ps p + i)) := by unfold faultF; rw [if_neg hin, hpf, hef, hhit]
              rw [hf]
              refine ret_eq ?_
              simp only [go_sem]
            · repeat (first | ((with_reducible refine AWp.ofC ?_ ?_); (focus exact rfl); simp only [go_sem]) | ((with_reducible refine an ?_ ?_); focus exact Au))
              exact ⟨_, List.Sublist.refl _, rfl, hB.next h6⟩
          · have e : i = ps[p].evs.length := by omega
            rw [e] at hB
            repeat (first | ((with_reducible refine AWp.ofC ?_ ?_); (focus exact rfl); simp only [go_sem]) | ((with_reducible refine an ?_ ?_); focus exact Au))
            exact ⟨_, List.Sublist.refl _, rfl, hB.row hpp⟩
        · have hmf : msgF ps = none := pairF_zero fun q hq r hr => hA.1 q hq r (by omega) hr
          clear hA
          have hn1 : 1 ≤ ps.length := by omega
          repeat (first | ((with_reducible refine AWp.ofC ?_ ?_); (focus exact rfl); simp only [go_sem]) | ((with_reducible refine an ?_ ?_); focus exact Au))
          repeat ((with_reducible refine an ?_ ?_); focus exact As)
          refine (ref12_acyclic ps hs hmf hn1).val.use ?_; simp only [go_sem]
          repeat (first | ((with_reducible refine AWp.ofC ?_ ?_); (focus exact rfl); simp only [go_sem]) | ((with_reducible refine an ?_ ?_); focus exact Au))
          refine ⟨fun h7 => ?_, fun h7 => ?_⟩
          · repeat (first | ((with_reducible refine AWp.ofC ?_ ?_); (focus exact rfl); simp only [go_sem]) | ((with_reducible refine an ?_ ?_); focus exact Au))
            have hf : faultF ps = ((0, 0), 0) := by unfold faultF; rw [if_neg hin, hpf, hef, hmf, acyB_cyc hs hmf h7]
            rw [hf]
            refine ret_eq ?_
            simp only [go_sem]
          · repeat (first | ((with_reducible refine AWp.ofC ?_ ?_); (focus exact rfl); simp only [go_sem]) | ((with_reducible refine an ?_ ?_); focus exact Au))
            refine AWp.block (AWp.count 13 ps.length [] [1, 2] (fun p vs L => L = [(b2, .row 55 2 [aEid (0, 0)] 1)] ∧ Ahead ps (fun q j => ¬ Reach ps ((q : Int), (j : Int) + 1) ((q : Int), (j : Int) + 1)) p 0) rfl rfl ⟨by simp [aEid], fun _ _ _ h => by omega, fun j hj => by omega⟩ ?_)
            rintro p vs L hp - ⟨rfl, hA⟩
            simp only [go_sem]
            repeat (first | ((with_reducible refine AWp.ofC ?_ ?_); (focus exact rfl); simp only [go_sem]) | ((with_reducible refine an ?_ ?_); focus exact Au))
            refine ⟨fun h4 => ?_, fun h4 => ?_⟩
            · have hpp : p < ps.length := by omega
              have hgP := getD_map (f := aPr) hpp
              have hel := hs.evs _ (List.getElem_mem hpp)
              repeat (first | ((with_reducible refine AWp.ofC ?_ ?_); (focus exact rfl); simp only [go_sem]) | ((with_reducible refine an ?_ ?_); focus exact Au))
              refine AWp.block (AWp.count 14 ps[p].evs.length [] [1, 2, 13] (fun i vs L => L = [(b2, .row 55 2 [aEid (0, 0)] 1)] ∧ Ahead ps (fun q j => ¬ Reach ps ((q : Int), (j : Int) + 1) ((q : Int), (j : Int) + 1)) p i) rfl rfl ⟨by simp [aEid], hA⟩ ?_)
              rintro i vs L hi - ⟨rfl, hB⟩
              simp only [go_sem]
              repeat (first | ((with_reducible refine AWp.ofC ?_ ?_); (focus exact rfl); simp only [go_sem, hgP]) | ((with_reducible refine an ?_ ?_); focus exact Au))
              refine ⟨fun h5 => ?_, fun h5 => ?_⟩
              · have hie : i < ps[p].evs.length := by omega
                have hpast := ref12_Past ps hs hmf hn1 p hpp i hie
                rw [pastA_eq] at hpast
                have hg1 : ((List.range ps.length).map fun q => AV.sl 1 (pastR ps ((p : Int), (i : Int) + 1) q)).getD p .any = .sl 1 (pastR ps ((p : Int), (i : Int) + 1) p) := map_range_getD hpp _
                have hg2 := pastR_get ((p : Int), (i : Int) + 1) hpp hie
                have hgl : (pastR ps ((p : Int), (i : Int) + 1) p).length = ps[p].evs.length + 1 := by unfold pastR; rw [List.length_map, List.length_range, nev_get hpp]
                repeat (first | ((with_reducible refine AWp.ofC ?_ ?_); (focus exact rfl); simp only [go_sem]) | ((with_reducible refine an ?_ ?_); focus exact Au))
                intro b15 _
                repeat (first | ((with_reducible refine AWp.ofC ?_ ?_); (focus exact rfl); simp only [go_sem]) | ((with_reducible refine an ?_ ?_); focus exact Au))
                repeat ((with_reducible refine an ?_ ?_); focus exact As)
                refine (hpast).val.use ?_; simp only [go_sem, hg1, hg2, hgl, List.length_range]
                repeat ((with_reducible refine an ?_ ?_); focus exact As)
                repeat (first | ((with_reducible refine AWp.ofC ?_ ?_); (focus exact rfl); simp only [go_sem]) | ((with_reducible refine an ?_ ?_); focus exact Au))
                refine ⟨fun h6 => ?_, fun h6 => ?_⟩
                · repeat (first | ((with_reducible refine AWp.ofC ?_ ?_); (focus exact rfl); simp only [go_sem]) | ((with_reducible refine an ?_ ?_); focus exact Au))
                  have hhit := cycF_hit (evIds_get hpp hie) (fun j y hj hy => by
                    obtain ⟨q, hq, r, hr, e, rfl⟩ := evIds_inv hy
                    exact hB.idx hpp (by omega) hq hr (by omega)) h6
                  have hf : faultF ps = (((p : Int), (i : Int) + 1), 10) := by unfold faultF; rw [if_neg hin, hpf, hef, hmf, hhit]
                  rw [hf]
                  refine ret_eq ?_
                  simp only [go_sem]
                · repeat (first | ((with_reducible refine AWp.ofC ?_ ?_); (focus exact rfl); simp only [go_sem]) | ((with_reducible refine an ?_ ?_); focus exact Au))
                  exact ⟨_, List.Sublist.refl _, rfl, hB.next h6⟩
              · have e : i = ps[p].evs.length := by omega
                rw [e] at hB
                repeat (first | ((with_reducible refine AWp.ofC ?_ ?_); (focus exact rfl); simp only [go_sem]) | ((with_reducible refine an ?_ ?_); focus exact Au))
                exact ⟨_, List.Sublist.refl _, rfl, hB.row hpp⟩
            · have hcf : cycF ps = none := cycF_none fun j y hy => by
                obtain ⟨q, hq, r, hr, e, rfl⟩ := evIds_inv hy
                exact hA.1 q hq r (by omega) hr
              repeat (first | ((with_reducible refine AWp.ofC ?_ ?_); (focus exact rfl); simp only [go_sem]) | ((with_reducible refine an ?_ ?_); focus exact Au))
              have hf : faultF ps = ((0, 0), 0) := by unfold faultF; rw [if_neg hin, hpf, hef, hmf, hcf]
              rw [hf]
              refine ret_eq ?_
              simp only [go_sem]
theorem ref12_Valid (ps : List Pr) (hs : Sm ps) : PC Go.Proofs.Tryz.prog 19 [aTr ps] (ab (validF ps)) := by
  refine PC.enter 12 [.tmp 2] [1, 3] Go.Proofs.Tryz.func19 rfl rfl rfl rfl rfl (by simp) (AWp.of ?_); simp only [go_sem]
  repeat (first | ((with_reducible refine AWp.ofC ?_ ?_); (focus exact rfl); simp only [go_sem]) | ((with_reducible refine an ?_ ?_); focus exact Au))
  repeat ((with_reducible refine an ?_ ?_); focus exact As)
  refine (ref12_Fault ps hs).val.use ?_; simp only [go_sem]
  repeat ((with_reducible refine an ?_ ?_); focus exact As)
  intros
  refine AWp.of ?_; simp only [go_sem]
  repeat (first | ((with_reducible refine AWp.ofC ?_ ?_); (focus exact rfl); simp only [go_sem]) | ((with_reducible refine an ?_ ?_); focus exact Au))
  refine ret_eq ?_; simp only [go_sem]
  rfl
end Go.AL
end
section
/- The references of the layers 12 and 25: cuts, and the faults of a cut. No condition. -/
namespace Go.AL
open Go Go.RowKit
set_option maxRecDepth 4000
theorem cntOk_get {ps : List Pr} {c : List Int} {p : Nat} (hp : p < ps.length) (hc : p < c.length) : cntOk ps c p = (decide (0 ≤ c[p]) && decide (c[p] ≤ ps[p].evs.length)) := by
  simp only [cntOk, List.getElem?_eq_getElem hp, List.getElem?_eq_getElem hc]
theorem ref12_Cut (ps : List Pr) (hs : Sm ps) (c : List Int) : PC Go.Proofs.Tryz.prog 61 [aTr ps, aInts c] (ab (decide (c.length = ps.length) && inRangeF ps c)) := by
  have hl := hs.procs
  refine PC.enter 37 [.tmp 4] [2] Go.Proofs.Tryz.func61 rfl rfl rfl rfl rfl (by simp) (AWp.of ?_); simp only [go_sem]
  repeat (first | ((with_reducible refine AWp.ofC ?_ ?_); (focus exact rfl); simp only [go_sem]) | ((with_reducible refine an ?_ ?_); focus exact Au))
  repeat (first | ((with_reducible refine AWp.ofC ?_ ?_); (focus exact rfl); simp only [go_sem]) | ((with_reducible refine an ?_ ?_); focus exact Au))
  refine ⟨fun h1 => ?_, fun h1 => ?_⟩
  · repeat (first | ((with_reducible refine AWp.ofC ?_ ?_); (focus exact rfl); simp only [go_sem]) | ((with_reducible refine an ?_ ?_); focus exact Au))
    refine ret_eq ?_; simp only [go_sem]
    rw [decide_eq_false (by omega)]; rfl
  · have hc : c.length = ps.length := by omega
    repeat (first | ((with_reducible refine AWp.ofC ?_ ?_); (focus exact rfl); simp only [go_sem]) | ((with_reducible refine an ?_ ?_); focus exact Au))
    refine AWp.block (AWp.count 5 c.length [] [1, 2] (fun p vs L => L = [] ∧ ∀ q, q < p → cntOk ps c q = true) rfl rfl ⟨rfl, by omega⟩ ?_)
    rintro p vs L hp - ⟨rfl, hI⟩
    simp only [go_sem]
    repeat (first | ((with_reducible refine AWp.ofC ?_ ?_); (focus exact rfl); simp only [go_sem]) | ((with_reducible refine an ?_ ?_); focus exact Au))
    refine ⟨fun h2 => ?_, fun h2 => ?_⟩
    · have hpc : p < c.length := by omega
      have hpp : p < ps.length := by omega
      have hco := cntOk_get hpp hpc
      have hgP := getD_map (f := aPr) hpp
      have hgc := getD_map (f := ai) hpc
      refine AWp.seq (AWp.block (AWp.seq ?_))
      refine AWp.drawn mixed 18 (by kernel_rfl) ?_; simp only [go_sem, hgP, hgc]
      repeat ((with_reducible refine an ?_ ?_); focus exact As)
      repeat (first | ((with_reducible refine AWp.ofC ?_ ?_); (focus exact rfl); simp only [go_sem]) | ((with_reducible refine an ?_ ?_); focus exact Au))
      refine ⟨fun h3 => ?_, fun h3 => ?_⟩
      · repeat (first | ((with_reducible refine AWp.ofC ?_ ?_); (focus exact rfl); simp only [go_sem]) | ((with_reducible refine an ?_ ?_); focus exact Au))
        refine ret_eq ?_; simp only [go_sem]
        have : inRangeF ps c = false := by
          unfold inRangeF
          rw [List.all_eq_false]
          refine ⟨p, List.mem_range.2 hpc, ?_⟩
          rw [hco]
          simp only [Bool.and_eq_true, decide_eq_true_eq]
          omega
        rw [this, Bool.and_false]
      · intro h4
        repeat (first | ((with_reducible refine AWp.ofC ?_ ?_); (focus exact rfl); simp only [go_sem]) | ((with_reducible refine an ?_ ?_); focus exact Au))
        refine ⟨_, List.Sublist.refl _, rfl, fun q hq => ?_⟩
        by_cases e : q = p
        · subst e; rw [hco]; simp only [Bool.and_eq_true, decide_eq_true_eq]; omega
        · exact hI q (by omega)
    · repeat (first | ((with_reducible refine AWp.ofC ?_ ?_); (focus exact rfl); simp only [go_sem]) | ((with_reducible refine an ?_ ?_); focus exact Au))
      refine ret_eq ?_; simp only [go_sem]
      have : inRangeF ps c = true := by
        unfold inRangeF
        rw [List.all_eq_true]
        exact fun q hq => hI q (by have := List.mem_range.1 hq; omega)
      rw [this, decide_eq_true hc]; rfl
theorem ref12_Consistent (ps : List Pr) (hs : Sm ps) (hn : 1 ≤ ps.length) (c : List Int) (hc : c.length = ps.length) (hr : inRangeF ps c = true) : PC Go.Proofs.Tryz.prog 62 [aTr ps, aInts c] (ab (closedF ps c)) := by
  have hl := hs.procs
  refine PC.enter 47 [.tmp 4] [2, 7, 8] Go.Proofs.Tryz.func62 rfl rfl rfl rfl rfl (by simp) (AWp.of ?_); simp only [go_sem]
  repeat (first | ((with_reducible refine AWp.ofC ?_ ?_); (focus exact rfl); simp only [go_sem]) | ((with_reducible refine an ?_ ?_); focus exact Au))
  refine AWp.block (AWp.count 5 c.length [] [1, 2] (fun p vs L => L = [] ∧ Ahead ps (fun q j => badEv ps c (((q : Int), (j : Int) + 1), evq ps q j) = false) p 0) rfl rfl ⟨rfl, fun _ _ _ h => by omega, fun j hj => by omega⟩ ?_)
  rintro p vs L hp - ⟨rfl, hA⟩
  simp only [go_sem]
  repeat (first | ((with_reducible refine AWp.ofC ?_ ?_); (focus exact rfl); simp only [go_sem]) | ((with_reducible refine an ?_ ?_); focus exact Au))
  refine ⟨fun h1 => ?_, fun h1 => ?_⟩
  · have hpc : p < c.length := by omega
    have hpp : p < ps.length := by omega
    have hgP := getD_map (f := aPr) hpp
    have hgc := getD_map (f := ai) hpc
    have hel := hs.evs _ (List.getElem_mem hpp)
    obtain ⟨hr1, hr2⟩ := inRangeF_get hr hc hpp
    repeat (first | ((with_reducible refine AWp.ofC ?_ ?_); (focus exact rfl); simp only [go_sem]) | ((with_reducible refine an ?_ ?_); focus exact Au))
    refine AWp.block (AWp.count 6 c[p].toNat [] [1, 2, 5] (fun i vs L => L = [] ∧ Ahead ps (fun q j => badEv ps c (((q : Int), (j : Int) + 1), evq ps q j) = false) p i) rfl rfl ⟨rfl, hA⟩ ?_)
    rintro i vs L hi - ⟨rfl, hB⟩
    simp only [go_sem]
    repeat (first | ((with_reducible refine AWp.ofC ?_ ?_); (focus exact rfl); simp only [go_sem, hgc]) | ((with_reducible refine an ?_ ?_); focus exact Au))
    refine ⟨fun h2 => ?_, fun h2 => ?_⟩
    · have hie : i < ps[p].evs.length := by omega
      have hge := getD_map (f := aEv) hie
      have hbad : badEv ps c (((p : Int), (i : Int) + 1), evq ps p i) = (decide (ps[p].evs[i].kind = 3) && decide (cAt c (findIn (evIds ps) 2 ps[p].evs[i].msg).1 < (findIn (evIds ps) 2 ps[p].evs[i].msg).2)) := by
        rw [evq_get hpp hie]
        simp only [badEv, cAt_nat hpc, decide_eq_true (show (i : Int) + 1 ≤ c[p] by omega), Bool.and_true]
      have hev := evIds_get hpp hie
      have hq0 := evq_get hpp hie
      have hfd := ref12_Find ps hs 2 ps[p].evs[i].msg
      obtain ⟨f1, f2⟩ := findIn_proc hn 2 ps[p].evs[i].msg
      have hgs := getD_cAt (c := c) f1 (by omega)
      repeat (first | ((with_reducible refine AWp.ofC ?_ ?_); (focus exact rfl); simp only [go_sem, hgP, hge]) | ((with_reducible refine an ?_ ?_); focus exact Au))
      intro b7
      repeat (first | ((with_reducible refine AWp.ofC ?_ ?_); (focus exact rfl); simp only [go_sem]) | ((with_reducible refine an ?_ ?_); focus exact Au))
      refine ⟨fun h3 => ?_, fun h3 => ?_⟩
      · repeat (first | ((with_reducible refine AWp.ofC ?_ ?_); (focus exact rfl); simp only [go_sem]) | ((with_reducible refine an ?_ ?_); focus exact Au))
        repeat ((with_reducible refine an ?_ ?_); focus exact As)
        refine (hfd).val.use ?_; simp only [go_sem]
        repeat ((with_reducible refine an ?_ ?_); focus exact As)
        intro b8
        refine AWp.seq ?_
        refine AWp.drawn mixed 7 (by kernel_rfl) ?_; simp only [go_sem, hgs]
        repeat ((with_reducible refine an ?_ ?_); focus exact As)
        repeat (first | ((with_reducible refine AWp.ofC ?_ ?_); (focus exact rfl); simp only [go_sem]) | ((with_reducible refine an ?_ ?_); focus exact Au))
        refine ⟨fun h4 => ?_, fun h4 => ?_⟩
        · repeat (first | ((with_reducible refine AWp.ofC ?_ ?_); (focus exact rfl); simp only [go_sem]) | ((with_reducible refine an ?_ ?_); focus exact Au))
          refine ret_eq ?_; simp only [go_sem]
          unfold closedF
          have : (evIds ps).any (badEv ps c) = true := List.any_eq_true.2 ⟨_, List.mem_of_getElem? hev, by rw [← hq0, hbad, decide_eq_true h3, decide_eq_true h4]; rfl⟩
          rw [this]; rfl
        · repeat (first | ((with_reducible refine AWp.ofC ?_ ?_); (focus exact rfl); simp only [go_sem]) | ((with_reducible refine an ?_ ?_); focus exact Au))
          exact ⟨_, List.Sublist.refl _, rfl, hB.next (by rw [hbad, decide_eq_false h4, Bool.and_false])⟩
      · repeat (first | ((with_reducible refine AWp.ofC ?_ ?_); (focus exact rfl); simp only [go_sem]) | ((with_reducible refine an ?_ ?_); focus exact Au))
        exact ⟨_, List.Sublist.refl _, rfl, hB.next (by rw [hbad, decide_eq_false h3]; rfl)⟩
    · repeat (first | ((with_reducible refine AWp.ofC ?_ ?_); (focus exact rfl); simp only [go_sem]) | ((with_reducible refine an ?_ ?_); focus exact Au))
      refine ⟨_, List.Sublist.refl _, rfl, Ahead.row hpp ⟨hB.1, fun j hj => ?_⟩⟩
      by_cases e : j < i
      · exact hB.2 j e
      · simp only [badEv, cAt_nat hpc, decide_eq_false (show ¬ (j : Int) + 1 ≤ c[p] by omega), Bool.and_false, Bool.false_and]
  · repeat (first | ((with_reducible refine AWp.ofC ?_ ?_); (focus exact rfl); simp only [go_sem]) | ((with_reducible refine an ?_ ?_); focus exact Au))
    refine ret_eq ?_; simp only [go_sem]
    unfold closedF
    have : (evIds ps).any (badEv ps c) = false := by
      rw [List.any_eq_false]
      intro x hx
      obtain ⟨k, hk⟩ := List.getElem?_of_mem hx
      obtain ⟨q, hq, j, hj, _, rfl⟩ := evIds_inv hk
      have := hA.1 q hq j (by omega) hj
      dsimp only at this
      rw [evq_get hq hj] at this
      rw [this]; decide
    rw [this]; rfl
end Go.AL
end
section
/- Predicates as trees; which are well-formed. No condition. -/
namespace Go.AL
open Go Go.RowKit
set_option maxRecDepth 4000
inductive Pd where
  | mk (kind n proc peer : Int) (name : ByteArray) (l : List Pd)
def Pd.l : Pd → List Pd | .mk _ _ _ _ _ l => l
def Pd.kind : Pd → Int | .mk k _ _ _ _ _ => k
mutual
def aPd : Pd → AV
  | .mk k n p q s l => .agg [ai k, ai n, ai p, ai q, astr s, .sl 6 (aPdL l)]
def aPdL : List Pd → List AV
  | [] => []
  | x :: r => aPd x :: aPdL r
end
theorem aPdL_map : ∀ l : List Pd, aPdL l = l.map aPd
  | [] => by rw [aPdL]; rfl
  | x :: r => by rw [aPdL, aPdL_map r]; rfl
@[go_sem] theorem aPd_mk (k n p q : Int) (s : ByteArray) (l : List Pd) : aPd (.mk k n p q s l) = .agg [ai k, ai n, ai p, ai q, astr s, .sl 6 (l.map aPd)] := by rw [aPd, aPdL_map]
theorem Pd.ind {P : Pd → Prop} (h : ∀ k n p q s l, (∀ x ∈ l, P x) → P (.mk k n p q s l)) : ∀ t, P t
  | .mk k n p q s l => h k n p q s l fun x _hx => Pd.ind h x
termination_by t => SizeOf.sizeOf t
decreasing_by have := List.sizeOf_lt_of_mem _hx; simp; omega
/-! ### Sizes -/
mutual
def szF : Pd → Nat
  | .mk _ _ _ _ _ l => szL l + 1
def szL : List Pd → Nat
  | [] => 0
  | x :: r => szF x + szL r
end
mutual
def dpF : Pd → Nat
  | .mk _ _ _ _ _ l => dpL l + 1
def dpL : List Pd → Nat
  | [] => 0
  | x :: r => max (dpF x) (dpL r)
end
/-- What the reference counts: the size, or the number behind the limit. -/
def cntF (s : Nat) (lim : Int) : Int := if (s : Int) ≤ lim then s else lim + 1
def capF (d : Nat) (m : Int) : Int := if (d : Int) ≤ m then d else m + 1
/-! ### Nodes -/
def partsF (k : Int) : Int := if ((1 ≤ k ∧ k ≤ 4) ∨ k = 13) ∨ k = 14 then 0 else if (k = 5 ∨ k = 15) ∨ (18 ≤ k ∧ k ≤ 21) then 1 else if ((6 ≤ k ∧ k ≤ 12) ∨ k = 16) ∨ k = 17 then 2 else -1
mutual
def allB (f : Pd → Bool) : Pd → Bool
  | .mk k n p q s l => f (.mk k n p q s l) && allL f l
def allL (f : Pd → Bool) : List Pd → Bool
  | [] => true
  | x :: r => allB f x && allL f r
end
def numB (k n : Int) : Bool := if k = 1 then decide (0 ≤ n ∧ n ≤ 1125899906842624) else decide (n = 0)
def nameB (k p q : Int) (s : ByteArray) : Bool := decide (2 ≤ k ∧ k ≤ 4) || decide (p = 0 ∧ q = 0 ∧ s = ByteArray.empty)
def locB : Pd → Bool
  | .mk k n p q s l => decide (partsF k = l.length) && numB k n && nameB k p q s
def formedB (t : Pd) : Bool := decide (szF t ≤ 200) && decide (dpF t ≤ 20) && allB locB t
end Go.AL
end
section
/- What the program says of trees: which are well-formed, which have a type. No condition. -/
namespace Go.AL
open Go Go.RowKit
set_option maxRecDepth 4000
/-! ### Lists of trees, walked with a state -/
def findS {S : Type} (step : Pd → S → Bool × S) : List Pd → S → Option Nat × S
  | [], s => (none, s)
  | x :: r, s => if (step x s).1 then (some 0, (step x s).2) else ((findS step r (step x s).2).1.map (· + 1), (findS step r (step x s).2).2)
def idxA (o : Option Nat) : Int := match o with | some i => i | none => -1
/-! ### Types -/
def resF (k : Int) : Int := if k ≤ 8 then 1 else 2
def needF (k : Int) : Int := if k ≤ 12 then 1 else 2
/-- The parts of a node have the type that they need. -/
def tyNe (k m : Int) : Bool := decide (¬ resF m = needF k)
def typB : Pd → Bool
  | .mk k _ _ _ _ l => !l.any fun x => tyNe k x.kind
def typedB (t : Pd) : Bool := allB typB t
/-! ### Well-formed trees -/
mutual
def walkF : Pd → Int → Int → Bool × Int
  | .mk k n p q s l, d, c => if c - 1 < 0 ∨ 20 < d ∨ locB (.mk k n p q s l) = false then (false, c - 1) else walkL l (d + 1) (c - 1)
def walkL : List Pd → Int → Int → Bool × Int
  | [], _, c => (true, c)
  | x :: r, d, c => if (walkF x d c).1 then walkL r d (walkF x d c).2 else (false, (walkF x d c).2)
end
def stepW (d : Int) (x : Pd) (c : Int) : Bool × Int := (!(walkF x d c).1, (walkF x d c).2)
end Go.AL
end
section
/- Names in trees: what is resolved; variables by name. No condition. -/
namespace Go.AL
open Go Go.RowKit
set_option maxRecDepth 4000
def nmB (s : ByteArray) (v : ByteArray × Int) : Bool := decide (v.1 = s)
def varIx (vs : List (ByteArray × Int)) (s : ByteArray) : Int := match vs.findIdx? (nmB s) with | some i => i | none => -1
def isPB (n : Nat) (p : Int) : Bool := decide (0 ≤ p) && decide (p < n)
def knownB (ps : List Pr) (p : Int) (s : ByteArray) : Bool := match ps[p.toNat]? with | some x => x.vars.any (nmB s) | none => false
def resB (ps : List Pr) : Pd → Bool
  | .mk k _ p q s _ => if k = 2 then isPB ps.length p && decide (q = 0) && knownB ps p s else if k = 3 then isPB ps.length p && decide (q = 0) && decide (s = ByteArray.empty) else
    if k = 4 then isPB ps.length p && isPB ps.length q && !decide (p = q) && decide (s = ByteArray.empty) else true
/-! ### The reference -/
def varX (ps : List Pr) (p : Int) (s : ByteArray) : Int := match ps[p.toNat]? with | some x => varIx x.vars s | none => -1
end Go.AL
end
section
/- A trace without a cut: it is valid, its states are those of the trace. Plain laws. No condition. -/
namespace Go.AL
open Go Go.RowKit
set_option maxRecDepth 4000
/-! ### Names -/
/-! ### Values are small -/
def smallV (y : Int) : Prop := -1073741824 ≤ y ∧ y ≤ 1073741824
theorem valid_cyc {ps : List Pr} (h : validF ps = true) : cycF ps = none := by
  obtain ⟨h1, h2, h3⟩ := valid_parts h
  unfold validF faultF at h
  rw [h1, h2, h3] at h
  simp only [decide_eq_true_eq] at h
  split at h
  · cases h
  · split at h
    · cases h
    · assumption
/-! ### The dropped trace is valid -/
section
variable {ps : List Pr} {c : List Int}
/-- The event of the trace that an event of the dropped trace was. -/
def shE (c : List Int) (x : Eid) : Eid := (x.1, x.2 + c.getD x.1.toNat 0)
end
end Go.AL
end
section
/- Bounds of expressions, and their values: plain laws. No condition. -/
namespace Go.AL
open Go Go.RowKit
set_option maxRecDepth 4000
/-! ### The least and the greatest number of a list -/
def mn2 (a b : Int) : Int := if b < a then b else a
def mx2 (a b : Int) : Int := if a < b then b else a
def minL : List Int → Int | [] => 0 | a :: r => r.foldl mn2 a
def maxL : List Int → Int | [] => 0 | a :: r => r.foldl mx2 a
/-! ### The values of a variable -/
def valsF (x : Pr) (v : Nat) : List Int := (List.range (x.evs.length + 1)).map fun k => (stateAt x k).getD v 0
def varLo (ps : List Pr) (p : Int) (s : ByteArray) : Int := match ps[p.toNat]? with | some x => minL (valsF x (varIx x.vars s).toNat) | none => 0
def varHi (ps : List Pr) (p : Int) (s : ByteArray) : Int := match ps[p.toNat]? with | some x => maxL (valsF x (varIx x.vars s).toNat) | none => 0
def evN (ps : List Pr) (p : Int) : Int := match ps[p.toNat]? with | some x => x.evs.length | none => 0
def sentTo (q : Int) (e : Ev) : Bool := decide (e.kind = 2) && decide (e.peer = q)
def msgN (ps : List Pr) (p q : Int) : Int := match ps[p.toNat]? with | some x => (x.evs.countP (sentTo q) : Int) | none => 0
/-! ### Bounds -/
def tooB (a b : Int) : Bool := decide (a < -1125899906842624) || decide (1125899906842624 < b)
def absF (a : Int) : Int := mx2 a (-a)
def timesF (a b : Int) : Int := if a = 0 ∨ b = 0 then 0 else if 1125899906842624 / absF b < absF a then (if (decide (a < 0) != decide (b < 0)) = true then -1125899906842625 else 1125899906842625) else a * b
abbrev Bd := Int × Int × Bool
def bdL (ps : List Pr) (k n p q : Int) (s : ByteArray) : Int × Int := if k = 1 then (n, n) else if k = 3 then (0, evN ps p) else if k = 4 then (0, msgN ps p q) else (varLo ps p s, varHi ps p s)
def bd2 (k : Int) (a b : Bd) : Int × Int := if k = 5 then (-a.2.1, -a.1) else if k = 6 then (a.1 + b.1, a.2.1 + b.2.1) else if k = 7 then (a.1 - b.2.1, a.2.1 - b.1) else
  (minL [timesF a.1 b.1, timesF a.1 b.2.1, timesF a.2.1 b.1, timesF a.2.1 b.2.1], maxL [timesF a.1 b.1, timesF a.1 b.2.1, timesF a.2.1 b.1, timesF a.2.1 b.2.1])
def bdG (i : Int × Int) : Bd := (i.1, i.2, !tooB i.1 i.2)
def bdN (ps : List Pr) (k n p q : Int) (s : ByteArray) : List Bd → Bd
  | [] => bdG (bdL ps k n p q s)
  | [a] => if a.2.2 = true then bdG (bd2 k a a) else (0, 0, false)
  | a :: b :: _ => if a.2.2 = true ∧ b.2.2 = true then bdG (bd2 k a b) else (0, 0, false)
mutual
def intF (ps : List Pr) : Pd → Bd
  | .mk k n p q s l => bdN ps k n p q s (intL ps l)
def intL (ps : List Pr) : List Pd → List Bd
  | [] => []
  | x :: r => intF ps x :: intL ps r
end
mutual
def fitB (ps : List Pr) : Pd → Bool
  | .mk k n p q s l => if k ≤ 8 then (intF ps (.mk k n p q s l)).2.2 else fitL ps l
def fitL (ps : List Pr) : List Pd → Bool
  | [] => true
  | x :: r => fitB ps x && fitL ps r
end
/-- What is needed of a tree that has bounds. -/
def okT (ps : List Pr) (t : Pd) : Bool := allB locB t && allB (resB ps) t && allB typB t
/-! ### Values -/
structure Obs where
  var : Int → ByteArray → Int
  cnt : Int → Int
  chn : Int → Int → Int
def valN (o : Obs) (k n p q : Int) (s : ByteArray) : List Int → Int
  | [] => if k = 1 then n else if k = 2 then o.var p s else if k = 3 then o.cnt p else o.chn p q
  | [a] => -a
  | a :: b :: _ => if k = 6 then a + b else if k = 7 then a - b else a * b
mutual
def valF (o : Obs) : Pd → Int
  | .mk k n p q s l => valN o k n p q s (valL o l)
def valL (o : Obs) : List Pd → List Int
  | [] => []
  | x :: r => valF o x :: valL o r
end
def obsB (ps : List Pr) (o : Obs) : Pd → Prop
  | .mk k _ p q s _ => (k = 2 → varLo ps p s ≤ o.var p s ∧ o.var p s ≤ varHi ps p s) ∧ (k = 3 → 0 ≤ o.cnt p ∧ o.cnt p ≤ evN ps p) ∧ (k = 4 → 0 ≤ o.chn p q ∧ o.chn p q ≤ msgN ps p q)
mutual
def AllP (f : Pd → Prop) : Pd → Prop
  | .mk k n p q s l => f (.mk k n p q s l) ∧ AllPL f l
def AllPL (f : Pd → Prop) : List Pd → Prop
  | [] => True
  | x :: r => AllP f x ∧ AllPL f r
end
end Go.AL
end
section
/- The truth of predicates, which trees are checked, and which are local: plain laws. No condition. -/
namespace Go.AL
open Go Go.RowKit
set_option maxRecDepth 4000
def truN (k : Int) (v : List Int) (b : List Bool) : Bool :=
  if k = 9 then decide (v.getD 0 0 = v.getD 1 0) else if k = 10 then !decide (v.getD 0 0 = v.getD 1 0) else if k = 11 then decide (v.getD 0 0 < v.getD 1 0) else if k = 12 then decide (v.getD 0 0 ≤ v.getD 1 0) else
  if k = 13 then true else if k = 14 then false else if k = 15 then !b.getD 0 false else if k = 16 then b.getD 0 false && b.getD 1 false else b.getD 0 false || b.getD 1 false
mutual
def truF (o : Obs) : Pd → Bool
  | .mk k _ _ _ _ l => truN k (valL o l) (truL o l)
def truL (o : Obs) : List Pd → List Bool
  | [] => []
  | x :: r => truF o x :: truL o r
end
/-! ### What depends on what -/
/-- Two observers agree on a node. -/
def agrB (o o' : Obs) : Pd → Prop
  | .mk k _ p q s _ => (k = 2 → o.var p s = o'.var p s) ∧ (k = 3 → o.cnt p = o'.cnt p) ∧ (k = 4 → o.chn p q = o'.chn p q)
/-- Temporal nodes. -/
def tempB : Pd → Bool | .mk k _ _ _ _ _ => decide (18 ≤ k ∧ k ≤ 21)
def ntmB (x : Pd) : Bool := !tempB x
/-! ### Faults of trees -/
noncomputable def checkF (ps : List Pr) (t : Pd) : Int := if (validF ps && formedB t) = false then 1 else if allB (resB ps) t = false then 13 else if typedB t = false then 14 else if fitB ps t = false then 9 else 0
/-- A node that is local to a process. -/
def lclB (pr : Int) : Pd → Bool
  | .mk k _ p _ _ _ => if k = 4 ∨ (18 ≤ k ∧ k ≤ 21) then false else if k = 2 ∨ k = 3 then decide (p = pr) else true
noncomputable def lclF (ps : List Pr) (pr k : Int) (t : Pd) : Int :=
  if checkF ps t ≠ 0 then checkF ps t else if ¬ (0 ≤ pr ∧ pr < ps.length ∧ 0 ≤ k ∧ k ≤ evN ps pr) then 2 else if t.kind ≤ 8 then 14 else if allB (lclB pr) t = false then 15 else 0
/-- What is seen at a cut, and in a state. -/
def cutO (ps : List Pr) (c : List Int) (ch : Int → Int → Int) : Obs := ⟨fun p s => match ps[p.toNat]? with | some x => (stateAt x (c.getD p.toNat 0).toNat).getD (varIx x.vars s).toNat 0 | none => 0, fun p => c.getD p.toNat 0, ch⟩
def stC (n p : Nat) (k : Int) : List Int := (List.replicate n 0).set p k
def stO (ps : List Pr) (p : Nat) (k : Int) : Obs := cutO ps (stC ps.length p k) fun _ _ => 0
def lclT (ps : List Pr) (p : Nat) (t : Pd) (k : Int) : Bool := truF (stO ps p k) t
def truthsF (ps : List Pr) (p : Nat) (t : Pd) : List Bool := (List.range ((evN ps p).toNat + 1)).map fun (k : Nat) => lclT ps p t k
end Go.AL
end
section
/- Bounds of expressions: the program's and the reference's. No condition. -/
namespace Go.AL
open Go Go.RowKit
set_option maxRecDepth 4000
def aIv (a b : Int) : AV := .agg [ai a, ai b]
def aBd (x : Bd) : AV := .tup [aIv x.1 x.2.1, ab x.2.2]
/-! ### Products -/
/-! ### Lists of numbers -/
/-! ### Messages -/
end Go.AL
end
section
/- The program's values of expressions and truth of predicates. No condition. -/
namespace Go.AL
open Go Go.RowKit
set_option maxRecDepth 4000
def aView (ps : List Pr) (c : List Int) (V : List (List Int)) : AV := .agg [aPrs ps, aInts c, aRows V]
end Go.AL
end
section
/- The least and the greatest value of a variable. No condition. -/
namespace Go.AL
open Go Go.RowKit
set_option maxRecDepth 4000
end Go.AL
end
section
/- Bounds of expressions: the walks. No condition. -/
namespace Go.AL
open Go Go.RowKit
set_option maxRecDepth 4000
end Go.AL
end
section
/- The reference's values of states. No condition. -/
namespace Go.AL
open Go Go.RowKit
set_option maxRecDepth 4000
end Go.AL
end
section
/- Bounds of expressions: the reference's walks. No condition. -/
namespace Go.AL
open Go Go.RowKit
set_option maxRecDepth 4000
def aBd3 (x : Bd) : AV := .tup [ai x.1, ai x.2.1, ab x.2.2]
end Go.AL
end
section
/- Which trees are checked: the program's Check and the reference's. No condition. -/
namespace Go.AL
open Go Go.RowKit
set_option maxRecDepth 4000
/-! ### The reference -/
end Go.AL
end
section
/- The truth of predicates: the program. No condition. -/
namespace Go.AL
open Go Go.RowKit
set_option maxRecDepth 4000
end Go.AL
end
section
/- The truth of a predicate at a cut: evaluate.Bool. No condition. -/
namespace Go.AL
open Go Go.RowKit
set_option maxRecDepth 4000
/-! ### What is seen at a cut -/
noncomputable def atE (ps : List Pr) (c : List Int) (t : Pd) (w : Int) : Int :=
  if c.length ≠ ps.length then 1 else if checkF ps t ≠ 0 then checkF ps t else if givenF ps [c] [] ≠ 0 then givenF ps [c] [] else if resF t.kind ≠ w then 14 else if allB ntmB t = false then 15 else 0
open Classical in
noncomputable def atV (ps : List Pr) (c : List Int) (t : Pd) : AV := if c.length ≠ ps.length ∨ checkF ps t ≠ 0 ∨ givenF ps [c] [] ≠ 0 then aView [] [] [] else aView ps c (valuesAt ps c)
/-! ### Trees without channels -/
def nchB : Pd → Bool | .mk k _ _ _ _ _ => decide (k ≠ 4)
def andB (f g : Pd → Bool) (x : Pd) : Bool := f x && g x
noncomputable def aBool (ps : List Pr) (c : List Int) (t : Pd) : AV := .tup [ab (decide (atE ps c t 2 = 0) && truF (cutO ps c fun _ _ => 0) t), ai (atE ps c t 2)]
end Go.AL
end
section
/- The join and the meet of two cuts. No condition. -/
namespace Go.AL
open Go Go.RowKit
set_option maxRecDepth 4000
/-- A row that is filled from the front. -/
def fillZ (l : List Int) (n i : Nat) : List Int := l.take i ++ List.replicate (n - i) 0
def two (_l a b : List Int) (g : Int → Int → Int) : List Int := List.zipWith g a b
noncomputable def aComb (ps : List Pr) (a b : List Int) (g : Int → Int → Int) : AV := if givenF ps [a, b] [] ≠ 0 then .tup [.sl 1 [], ai (givenF ps [a, b] [])] else .tup [aInts (List.zipWith g a b), ai 0]
theorem givenL {ps : List Pr} {l : List (List Int)} : givenF ps l [] = 0 ↔ (validF ps = true ∧ ∀ c ∈ l, c.length = ps.length) ∧ (∀ c ∈ l, inRangeF ps c = true) ∧ ∀ c ∈ l, closedF ps c = true := by
  have h1 : sizedF ps l = true ↔ validF ps = true ∧ ∀ c ∈ l, c.length = ps.length := by
    refine ⟨sizedF_inv, fun h => ?_⟩
    unfold sizedF
    rw [h.1, Bool.true_and, Bool.not_eq_true', List.any_eq_false]
    intro c hc
    rw [decide_eq_true (h.2 c hc)]; decide
  have h2 := List.all_eq_true (l := l) (p := inRangeF ps)
  have h3 := List.all_eq_true (l := l) (p := closedF ps)
  rw [← h1, ← h2, ← h3]
  unfold givenF
  cases sizedF ps l <;> cases l.all (inRangeF ps) <;> cases l.all (closedF ps) <;> simp
end Go.AL
end
section
/- Rewritten trees. No condition. -/
namespace Go.AL
open Go Go.RowKit
set_option maxRecDepth 4000
/-! ### Counts of processes that there are -/
def covB (m : Int) : Pd → Bool
  | .mk k _ p _ _ _ => !(decide (k = 3) && (decide (p < 0) || decide (m ≤ p)))
/-! ### Rewritten trees -/
mutual
def rwF (c : List Int) : Pd → Pd
  | .mk k n p q s l => if k = 3 then .mk 6 0 0 0 ByteArray.empty [.mk k n p q s l, .mk 1 (c.getD p.toNat 0) 0 0 ByteArray.empty []] else .mk k n p q s (rwL c l)
def rwL (c : List Int) : List Pd → List Pd
  | [] => []
  | x :: r => rwF c x :: rwL c r
end
def aPd0 : AV := .agg [ai 0, ai 0, ai 0, ai 0, astr ByteArray.empty, anil]
end Go.AL
end
section
/- Trees rewritten and counts shifted: what is returned. No condition. -/
namespace Go.AL
open Go Go.RowKit
set_option maxRecDepth 4000
def pd0 : Pd := .mk 0 0 0 0 ByteArray.empty []
def rwRes (t : Pd) (c : List Int) : Pd × Int :=
  if (!formedB t || !c.all inB) = true then (pd0, 1) else if allB (covB c.length) t = false then (pd0, 2) else if formedB (rwF c t) = false then (pd0, 5) else (rwF c t, 0)
/-! ### Shifted counts -/
def shS (c d : List Int) : List Int := List.zipWith (· + ·) c d
def shiftR (c d : List Int) : List Int × Int :=
  if (!decide (c.length = d.length) || decide (8 < c.length)) = true then ([], 1) else if (!c.all inB || !d.all inB) = true then ([], 2) else if (shS c d).all inB = false then ([], 9) else (shS c d, 0)
def bigB (c d : List Int) (i : Nat) : Bool := ((shS c d).take i).any fun x => decide (64 < x)
end Go.AL
end
section
/- What a cut of the trace without a cut is, and what a rewritten tree says there. Plain laws. No condition. -/
namespace Go.AL
open Go Go.RowKit
set_option maxRecDepth 4000
theorem closed_iff {ps : List Pr} {c : List Int} : closedF ps c = true ↔ ∀ (p : Nat) (hp : p < ps.length) (i : Nat) (hi : i < ps[p].evs.length), ps[p].evs[i].kind = 3 → (i : Int) + 1 ≤ cAt c p → (sndr ps ps[p].evs[i].msg).2 ≤ cAt c (sndr ps ps[p].evs[i].msg).1 := by
  unfold closedF
  rw [Bool.not_eq_true', List.any_eq_false]
  constructor
  · intro h p hp i hi hk hc
    have := h _ (List.mem_of_getElem? (evIds_get hp hi))
    unfold badEv at this
    simp only [Bool.and_eq_true, decide_eq_true_eq, not_and] at this
    have := this ⟨hk, hc⟩
    unfold sndr
    omega
  · intro h x hx
    obtain ⟨k, hk⟩ := List.getElem?_of_mem hx
    obtain ⟨p, hp, i, hi, _, rfl⟩ := evIds_inv hk
    unfold badEv
    simp only [Bool.and_eq_true, decide_eq_true_eq, not_and]
    rintro ⟨h1, h2⟩
    have := h p hp i hi h1 h2
    unfold sndr at this
    omega
theorem inRange_iff {ps : List Pr} {c : List Int} (hc : c.length = ps.length) : inRangeF ps c = true ↔ ∀ (p : Nat) (hp : p < ps.length), 0 ≤ cAt c p ∧ cAt c p ≤ ps[p].evs.length := by
  constructor
  · intro h p hp
    obtain ⟨h1, h2⟩ := inRangeF_get h hc hp
    rw [cAt_nat (show p < c.length by omega)]
    exact ⟨h1, h2⟩
  · intro h
    unfold inRangeF
    rw [List.all_eq_true]
    intro p hp
    have hpc := List.mem_range.1 hp
    have hpp : p < ps.length := by omega
    have := h p hpp
    rw [cAt_nat hpc] at this
    unfold cntOk
    simp only [List.getElem?_eq_getElem hpc, List.getElem?_eq_getElem hpp, Bool.and_eq_true, decide_eq_true_eq]
    exact this
def joinL (c d : List Int) : List Int := List.zipWith (fun x y => if x < y then y else x) c d
def subL (c d : List Int) : List Int := List.zipWith (fun x y => x - y) c d
section
variable {ps : List Pr} {c j : List Int}
end
end Go.AL
end
section
/- The least closed counts above counts: the sends that are missing are added one by one. Plain laws. No condition. -/
namespace Go.AL
open Go Go.RowKit
set_option maxRecDepth 4000
def closeN (ps : List Pr) : Nat → List Int → List Int
  | 0, c => c
  | n + 1, c => match missF ps c with
    | none => c
    | some x => closeN ps n (c.set x.1.1.toNat x.1.2)
def closeF (ps : List Pr) (c : List Int) : List Int := closeN ps (off ps ps.length) c
def totC (c : List Int) : Nat := (c.map Int.toNat).sum
theorem totC_le0 : ∀ (l : List Pr) (c : List Int), c.length = l.length → (∀ p (hp : p < l.length), c.getD p 0 ≤ l[p].evs.length) → totC c ≤ (l.map fun x => x.evs.length).sum
  | [], [], _, _ => Nat.le_refl _
  | x :: l, a :: c, hl, h => by
    have h0 := h 0 (by simp)
    have ht := totC_le0 l c (by simpa using hl) fun p hp => by
      have := h (p + 1) (by simpa using hp)
      simpa using this
    simp only [List.getElem_cons_zero, List.getD_cons_zero] at h0
    unfold totC at *
    simp only [List.map_cons, List.sum_cons]
    omega
theorem totC_le {ps : List Pr} {c : List Int} (hc : c.length = ps.length) (hr : inRangeF ps c = true) : totC c ≤ off ps ps.length := by
  unfold off
  rw [List.take_length]
  refine totC_le0 ps c hc fun p hp => ?_
  have := ((inRange_iff hc).1 hr p hp).2
  unfold cAt at this
  simpa using this
end Go.AL
end
section
/- Elimination, plainly: states are skipped that no cut which satisfies the locals can have. No condition. -/
namespace Go.AL
open Go Go.RowKit
set_option maxRecDepth 4000
/-- What elimination depends on: processes, last states, where the locals are true, and what a state needs. -/
structure Elim where
  n : Nat
  top : Nat → Nat
  ok : Nat → Nat → Bool
  need : Nat → Nat → Nat → Int
def exB (E : Elim) (now : Nat → Nat) (p k : Nat) : Bool := !E.ok p k || (List.range E.n).any fun q => decide (q ≠ p) && decide ((k : Int) < E.need q (now q) p)
def nextF (ex : Nat → Bool) (top : Nat) : Nat → Nat → Nat
  | 0, k => k
  | m + 1, k => if k ≤ top ∧ ex k = true then nextF ex top m (k + 1) else k
def nextK (ex : Nat → Bool) (top k : Nat) : Nat := nextF ex top (top + 1 - k) k
section
variable {ex : Nat → Bool} {top k : Nat}
theorem nextK_hit (h : k ≤ top) (he : ex k = true) : nextK ex top k = nextK ex top (k + 1) := by
  unfold nextK
  obtain ⟨m, hm⟩ : ∃ m, top + 1 - k = m + 1 := ⟨top - k, by omega⟩
  rw [hm, nextF, if_pos ⟨h, he⟩, show top + 1 - (k + 1) = m by omega]
theorem nextK_stop (h : ¬ (k ≤ top ∧ ex k = true)) : nextK ex top k = k := by
  unfold nextK
  cases top + 1 - k with
  | zero => rfl
  | succ m => rw [nextF, if_neg h]
theorem nextK_spec : ∀ (m k : Nat), top + 1 - k = m → k ≤ top + 1 → k ≤ nextK ex top k ∧ nextK ex top k ≤ top + 1 ∧ (∀ j, k ≤ j → j < nextK ex top k → ex j = true) ∧ (nextK ex top k ≤ top → ex (nextK ex top k) = false)
  | 0, k, hm, hk => by
    rw [nextK_stop (by omega)]
    exact ⟨Nat.le_refl _, hk, fun j _ _ => by omega, fun h => by omega⟩
  | m + 1, k, hm, hk => by
    by_cases he : ex k = true
    · rw [nextK_hit (by omega) he]
      obtain ⟨a1, a2, a3, a4⟩ := nextK_spec m (k + 1) (by omega) (by omega)
      refine ⟨by omega, a2, fun j h1 h2 => ?_, a4⟩
      by_cases e : j = k
      · subst e; exact he
      · exact a3 j (by omega) h2
    · rw [nextK_stop (fun h => he h.2)]
      exact ⟨Nat.le_refl _, hk, fun j _ _ => by omega, fun _ => by simpa using he⟩
end
def stepP (E : Elim) (now : Nat → Nat) : Option Nat := (List.range E.n).find? fun p => exB E now p (now p)
def goF (E : Elim) (now : Nat → Nat) (p : Nat) : Nat := nextK (exB E now p) (E.top p) (now p)
def updN (f : Nat → Nat) (p x : Nat) : Nat → Nat := fun q => if q = p then x else f q
theorem updN_self (f : Nat → Nat) (p x : Nat) : updN f p x p = x := if_pos rfl
theorem updN_ne {f : Nat → Nat} {p x q : Nat} (h : q ≠ p) : updN f p x q = f q := if_neg h
theorem find_range {n : Nat} {f : Nat → Bool} {p : Nat} (h : (List.range n).find? f = some p) : p < n ∧ f p = true ∧ ∀ q, q < p → f q = false := by
  rw [List.find?_eq_some_iff_getElem] at h
  obtain ⟨h1, i, hi, e, h2⟩ := h
  rw [List.getElem_range] at e
  subst e
  refine ⟨by simpa using hi, h1, fun q hq => ?_⟩
  have := h2 q hq
  rw [List.getElem_range] at this
  simpa using this
abbrev Stp := Nat × Nat × Nat
/-- The steps from where one is, where they end, and whether a process is through. -/
inductive RunR (E : Elim) : (Nat → Nat) → List Stp → (Nat → Nat) → Bool → Prop
  | stop {now : Nat → Nat} (h : stepP E now = none) : RunR E now [] now false
  | lost {now : Nat → Nat} {p : Nat} (h : stepP E now = some p) (hl : E.top p < goF E now p) : RunR E now [(p, now p, goF E now p - 1)] (updN now p (goF E now p)) true
  | go {now fin : Nat → Nat} {p : Nat} {st : List Stp} {l : Bool} (h : stepP E now = some p) (hl : goF E now p ≤ E.top p) (hr : RunR E (updN now p (goF E now p)) st fin l) : RunR E now ((p, now p, goF E now p - 1) :: st) fin l
def InE (E : Elim) (now : Nat → Nat) : Prop := ∀ q, q < E.n → now q ≤ E.top q
def roomE (E : Elim) (now : Nat → Nat) : Nat := totS E.n fun q => E.top q + 1 - now q
theorem totS_lt {c c' : Nat → Nat} {p : Nat} (h : ∀ q, q ≠ p → c' q = c q) (hp : c' p < c p) : ∀ n, totS n c' + (if p < n then 1 else 0) ≤ totS n c
  | 0 => by simp [totS]
  | n + 1 => by
    have := totS_lt h hp n
    rw [totS_succ, totS_succ]
    by_cases e : n = p
    · subst e
      rw [if_neg (by omega)] at this
      rw [if_pos (by omega)]; omega
    · rw [h n e]
      by_cases e2 : p < n
      · rw [if_pos e2] at this; rw [if_pos (by omega)]; omega
      · rw [if_neg e2] at this; rw [if_neg (by omega)]; omega
theorem step_inv {E : Elim} {now : Nat → Nat} (hI : InE E now) {p : Nat} (h : stepP E now = some p) :
    p < E.n ∧ exB E now p (now p) = true ∧ (∀ q, q < p → exB E now q (now q) = false) ∧ now p < goF E now p ∧ goF E now p ≤ E.top p + 1 ∧ (∀ j, now p ≤ j → j < goF E now p → exB E now p j = true) ∧ roomE E (updN now p (goF E now p)) < roomE E now := by
  obtain ⟨h1, h2, h3⟩ := find_range h
  have hle := hI p h1
  obtain ⟨a1, a2, a3, a4⟩ := nextK_spec (ex := exB E now p) (top := E.top p) _ (now p) rfl (by omega)
  have hlt : now p < goF E now p := by
    unfold goF
    rw [nextK_hit hle h2]
    obtain ⟨b1, _⟩ := nextK_spec (ex := exB E now p) (top := E.top p) _ (now p + 1) rfl (by omega)
    omega
  refine ⟨h1, h2, h3, hlt, a2, a3, ?_⟩
  unfold roomE
  have := totS_lt (c := fun q => E.top q + 1 - now q) (c' := fun q => E.top q + 1 - updN now p (goF E now p) q) (p := p) (fun q hq => by rw [updN_ne hq]) (by rw [updN_self]; omega) E.n
  rw [if_pos h1] at this
  omega
theorem inE_step {E : Elim} {now : Nat → Nat} (hI : InE E now) {p : Nat} (hl : goF E now p ≤ E.top p) : InE E (updN now p (goF E now p)) := fun q hq => by
  by_cases e : q = p
  · subst e; rw [updN_self]; exact hl
  · rw [updN_ne e]; exact hI q hq
theorem run_ex (E : Elim) : ∀ (m : Nat) (now : Nat → Nat), InE E now → roomE E now ≤ m → ∃ st fin l, RunR E now st fin l := by
  intro m
  induction m with
  | zero =>
    intro now hI hm
    cases h : stepP E now with
    | none => exact ⟨_, _, _, .stop h⟩
    | some p => have := (step_inv hI h).2.2.2.2.2.2; omega
  | succ m ih =>
    intro now hI hm
    cases h : stepP E now with
    | none => exact ⟨_, _, _, .stop h⟩
    | some p =>
      have h7 := (step_inv hI h).2.2.2.2.2.2
      by_cases hl : goF E now p ≤ E.top p
      · obtain ⟨st, fin, l, hr⟩ := ih _ (inE_step hI hl) (by omega)
        exact ⟨_, _, _, .go h hl hr⟩
      · exact ⟨_, _, _, .lost h (by omega)⟩
theorem inE_zero (E : Elim) : InE E fun _ => 0 := fun _ _ => Nat.zero_le _
open Classical in
noncomputable def stepsF (E : Elim) : List Stp := Classical.choose (run_ex E _ _ (inE_zero E) (Nat.le_refl _))
open Classical in
noncomputable def finF (E : Elim) : Nat → Nat := Classical.choose (Classical.choose_spec (run_ex E _ _ (inE_zero E) (Nat.le_refl _)))
open Classical in
noncomputable def lostF (E : Elim) : Bool := Classical.choose (Classical.choose_spec (Classical.choose_spec (run_ex E _ _ (inE_zero E) (Nat.le_refl _))))
/-! ### What is found is least -/
end Go.AL
end
section
/- The board of the package conjunctive: which states are excluded, who is through, one step. No condition. -/
namespace Go.AL
open Go Go.RowKit
set_option maxRecDepth 4000
def okL (E : Elim) (p : Nat) : List AV := (List.range (E.top p + 1)).map fun k => ab (E.ok p k)
def okM (E : Elim) : List AV := (List.range E.n).map fun p => .sl 1 (okL E p)
def needL (E : Elim) (q m : Nat) : List AV := (List.range E.n).map fun p => ai (E.need q m p)
def needM (E : Elim) (q : Nat) : List AV := (List.range (E.top q + 1)).map fun m => .sl 1 (needL E q m)
def needT (E : Elim) : List AV := (List.range E.n).map fun q => .sl 1 (needM E q)
section
variable {E : Elim} {p q m k : Nat}
end
def aBoard (E : Elim) (now : Nat → Nat) : AV := .rp 3 [.agg [.sl 1 (needT E), .sl 1 (okM E), .sl 1 (dnA E.n now)]] 0 0
structure SmE (E : Elim) : Prop where
  n : E.n ≤ 1000000
  top : ∀ q, E.top q ≤ 1000000
def lostB (E : Elim) (now : Nat → Nat) : Bool := (List.range E.n).any fun q => decide (E.top q < now q)
end Go.AL
end
section
/- Closing counts: the packages cut and the reference of layer 22. No condition. -/
namespace Go.AL
open Go Go.RowKit
set_option maxRecDepth 4000
/-! ### The reference -/
end Go.AL
end
section
/- The reference's values of expressions and truth of predicates. No condition. -/
namespace Go.AL
open Go Go.RowKit
set_option maxRecDepth 4000
end Go.AL
end
section
/- Local predicates: which they are, and their truth in states. No condition. -/
namespace Go.AL
open Go Go.RowKit
set_option maxRecDepth 4000
/-! ### The faults of a local predicate -/
/-! ### The reference -/
noncomputable def treeF (ps : List Pr) (t : Pd) (w : Int) : Int := if checkF ps t ≠ 0 then checkF ps t else if resF t.kind ≠ w then 14 else 0
end Go.AL
end
section
/- The truth of a local predicate in the states of its process. No condition. -/
namespace Go.AL
open Go Go.RowKit
set_option maxRecDepth 4000
def stV (n p : Nat) (st : List Int) : List (List Int) := (List.replicate n []).set p st
end Go.AL
end
section
/- The truths of a local predicate; the reference's truth in a state. No condition. -/
namespace Go.AL
open Go Go.RowKit
set_option maxRecDepth 4000
noncomputable def aTruths (ps : List Pr) (p : Int) (t : Pd) : AV := if lclF ps p 0 t = 0 then .tup [.sl 1 ((truthsF ps p.toNat t).map ab), ai 0] else .tup [.sl 1 [], ai (lclF ps p 0 t)]
end Go.AL
end
section
/- What the states of a trace need: the package conjunctive's table. No condition. -/
namespace Go.AL
open Go Go.RowKit
set_option maxRecDepth 4000
/-- Elimination in a trace, with local predicates. -/
noncomputable def elimOf (ps : List Pr) (ts : List Pd) : Elim where
  n := ps.length
  top := nev ps
  ok := fun p k => match ts[p]? with | some t => lclT ps p t k | none => true
  need := fun q k p => cAt (closeF ps (stC ps.length q k)) p
def doneN (E : Elim) (p : Nat) : List AV := (List.range E.n).map fun q => if q < p then .sl 1 (needM E q) else anil
def needK (E : Elim) (q m : Nat) : List AV := (List.range m).map fun j => .sl 1 (needL E q j)
end Go.AL
end
section
/- The board of the package conjunctive: one step of elimination, and all of them. No condition. -/
namespace Go.AL
open Go Go.RowKit
set_option maxRecDepth 4000
def aStp (s : Stp) : AV := .agg [ai s.1, ai s.2.1, ai s.2.2]
def stepR (E : Elim) (now : Nat → Nat) : AV := match stepP E now with
  | none => .tup [(.agg [ai 0, ai 0, ai 0]), ab false]
  | some p => .tup [.agg [ai p, ai (now p), ai ((goF E now p : Int) - 1)], ab true]
def stepN (E : Elim) (now : Nat → Nat) : Nat → Nat := match stepP E now with
  | none => now
  | some p => updN now p (goF E now p)
end Go.AL
end
section
/- The board of a trace with local predicates is made: the package conjunctive. No condition. -/
namespace Go.AL
open Go Go.RowKit
set_option maxRecDepth 4000
def lclAt (z : Int → Pd → Int) (ts : List Pd) (p : Nat) : Int := match ts[p]? with | some t => z p t | none => 0
/-- The error of local predicates: the first one's that has one. -/
noncomputable def conF (ps : List Pr) (ts : List Pd) : Int :=
  if validF ps = true ∧ ts.length = ps.length then match (List.range ts.length).find? (fun p => decide (lclAt (fun p t => lclF ps p 0 t) ts p ≠ 0)) with | some p => lclAt (fun p t => lclF ps p 0 t) ts p | none => 0 else 1
end Go.AL
end
section
/- The law of layer 49: awake. No condition. -/
namespace Go.AL
open Go Go.RowKit
set_option maxRecDepth 4000
theorem AWp.only {C : Cfg} {cd : Code} {Q : AQ} {ρ : Env} {L : AHeap} (ks : List Nat) (h : AWp C cd Q (ks.zip (ks.map (get ρ))) L) : AWp C cd Q ρ L :=
  AWp.st (fun _w0 _M _A0 _a _w hh => st_forget hh (get_zip ks ρ)) h
theorem Vw.mkRp {L : AHeap} {xs xs' : List AV} {k i j : Nat} (h : Vws L xs xs') : Vw L (.rp k xs i j) (.rp k xs' i j) := .rp h.1 h.2
def psA : List Pr := [⟨⟨#[112]⟩, [], [⟨2, 1, 5, 0, []⟩]⟩, ⟨⟨#[113]⟩, [], [⟨3, 0, 5, 3, []⟩]⟩]
def psB : List Pr := [⟨⟨#[112]⟩, [], []⟩, ⟨⟨#[113]⟩, [], [⟨1, 0, 0, 3, []⟩]⟩]
end Go.AL
end
section
/- Runs of elimination are determined; the example of the chapter. Plain laws. No condition. -/
namespace Go.AL
open Go Go.RowKit
set_option maxRecDepth 4000
/-! ### Answers -/
structure Ans where
  mode : Int
  holds : Bool
  kind : Int
  cut : List Int
  cuts : List (List Int)
  run : List (List Int)
  spans : List (Int × Int × Int)
  value : Int
def aSp (s : Int × Int × Int) : AV := .agg [ai s.1, ai s.2.1, ai s.2.2]
def aSps (l : List (Int × Int × Int)) : AV := .sl 3 (l.map aSp)
def aAns (a : Ans) : AV := .agg [ai a.mode, ab a.holds, ai a.kind, aInts a.cut, aRows a.cuts, aRows a.run, aSps a.spans, ai a.value]
def stpI (s : Stp) : Int × Int × Int := (s.1, s.2.1, s.2.2)
def cutL (n : Nat) (f : Nat → Nat) : List Int := (List.range n).map fun q => (f q : Int)
def noAns : Ans := ⟨0, false, 0, [], [], [], [], 0⟩
/-- The answer of an elimination. -/
noncomputable def ansOf (E : Elim) : Ans := if lostF E = true then ⟨1, false, 4, [], [], [], (stepsF E).map stpI, 0⟩ else ⟨1, true, 1, cutL E.n (finF E), [], [], [], 0⟩
/-! ### The example -/
def psC : List Pr := [⟨⟨#[112]⟩, [(⟨#[120]⟩, 0)], [⟨1, 0, 0, 0, [(0, 1)]⟩, ⟨1, 0, 0, 0, [(0, 0)]⟩, ⟨2, 1, 5, 0, []⟩]⟩, ⟨⟨#[113]⟩, [(⟨#[121]⟩, 0)], [⟨3, 0, 5, 0, []⟩, ⟨1, 0, 0, 0, [(0, 1)]⟩]⟩]
def oneT (p : Int) (s : ByteArray) : Pd := .mk 9 0 0 0 ByteArray.empty [.mk 2 0 p 0 s [], .mk 1 1 0 0 ByteArray.empty []]
def tsC : List Pd := [oneT 0 ⟨#[120]⟩, oneT 1 ⟨#[121]⟩]
def tsD : List Pd := [oneT 0 ⟨#[120]⟩, .mk 13 0 0 0 ByteArray.empty []]
end Go.AL
end
section
/- The greatest closed counts below counts: receipts whose sends are missing are left out one by one. Plain laws. No condition. -/
namespace Go.AL
open Go Go.RowKit
set_option maxRecDepth 4000
def openN (ps : List Pr) : Nat → List Int → List Int
  | 0, c => c
  | n + 1, c => match missF ps c with
    | none => c
    | some x => openN ps n (c.set x.2.1.toNat (x.2.2 - 1))
def openF (ps : List Pr) (c : List Int) : List Int := openN ps (totC c) c
end Go.AL
end
section
/- What elimination finds: the least consistent cut whose counts are states in which the locals are true. Plain laws. No condition. -/
namespace Go.AL
open Go Go.RowKit
set_option maxRecDepth 4000
/-- An elimination in a trace, whatever its states' truths. -/
structure NeedOk (ps : List Pr) (E : Elim) : Prop where
  n : E.n = ps.length
  top : ∀ p (hp : p < ps.length), E.top p = ps[p].evs.length
  need : ∀ q k p, E.need q k p = cAt (closeF ps (stC ps.length q k)) p
/-- A consistent cut whose counts are states that are not excluded in themselves. -/
structure SatD (ps : List Pr) (E : Elim) (d : List Int) : Prop where
  len : d.length = ps.length
  rng : inRangeF ps d = true
  clo : closedF ps d = true
  ok : ∀ p, p < ps.length → E.ok p (cAt d p).toNat = true
section
variable {ps : List Pr} {E : Elim}
end
end Go.AL
end
