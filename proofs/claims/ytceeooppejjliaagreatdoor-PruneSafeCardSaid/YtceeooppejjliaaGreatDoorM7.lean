/- Texts of this claim's proof: WStp2, AlFam, WVec, WDn, WVec2, WPk2, WRk, WSame. No condition. -/
import Derived.Test.YtceeooppejjliaaGreatDoorM6
import Derived.Test.YtceeooppejjliaaGreatDoorM4
section
namespace Go.AL
open Go Go.RowKit
set_option maxRecDepth 4000
theorem valid_parts {ps : List Pr} (h : validF ps = true) : procFirst ps = none ∧ evFirst ps = none ∧ msgF ps = none := by
 have hp : ∀ x, procFirst ps = some x → x.2 ≠ 0 := fun x hx => by
  unfold procFirst at hx
  rw [Option.map_eq_some_iff] at hx
  obtain ⟨k, hk, rfl⟩ := hx
  simpa using List.find?_some hk
 have he : ∀ x, evFirst ps = some x → x.2 ≠ 0 := fun x hx => by
  unfold evFirst at hx
  rw [Option.map_eq_some_iff] at hx
  obtain ⟨k, hk, rfl⟩ := hx
  simpa using List.find?_some hk
 have hmm : ∀ x, msgF ps = some x → x.2 ≠ 0 := fun x hx => by
  unfold msgF at hx
  split at hx
  ·rename_i k hk
   cases hx
   simpa using List.find?_some hk
  ·cases hx
 unfold validF faultF at h
 simp only [decide_eq_true_eq] at h
 split at h
 ·simp at h
 ·cases hpf : procFirst ps with
  | some x => rw [hpf] at h; exact absurd h (hp x hpf)
  | none =>
   rw [hpf] at h
   cases hef : evFirst ps with
   | some x => rw [hef] at h; exact absurd h (he x hef)
   | none =>
    rw [hef] at h
    cases hmf : msgF ps with
    | some x => rw [hmf] at h; exact absurd h (hmm x hmf)
    | none => exact ⟨rfl, rfl, rfl⟩
theorem valid_formed {ps : List Pr} (h : validF ps = true) : Formed ps := formed_of_evFirst (valid_parts h).2.1
theorem valid_unique {ps : List Pr} (h : validF ps = true) {p : Nat} (hp : p < ps.length) {i : Nat} (hi : i < ps[p].evs.length) (hk : ps[p].evs[i].kind = 2) : sndr ps ps[p].evs[i].msg = ((p : Int), (i : Int) + 1) := by
 have hev := evIds_get hp hi
 have hlt : off ps p + i < (evIds ps).length := (List.getElem?_eq_some_iff.1 hev).1
 have hpz : pairF ps (off ps p + i) = 0 := by
  have hm := (valid_parts h).2.2
  unfold msgF at hm
  split at hm
  ·cases hm
  ·rename_i hn
   rw [List.find?_eq_none] at hn
   simpa using hn _ (List.mem_range.2 hlt)
 unfold pairF at hpz
 rw [hev] at hpz
 simp only [hk, if_true] at hpz
 have hno : ¬ 0 < (findIn ((evIds ps).take (off ps p + i)) 2 ps[p].evs[i].msg).2 := by
  intro h0; rw [if_pos h0] at hpz; cases hpz
 unfold sndr
 refine findIn_hit hev (fun j y hj hy hc => hno ?_) ⟨hk, rfl⟩
 have hmem : y ∈ (evIds ps).take (off ps p + i) := by
  refine List.mem_of_getElem? (i := j) ?_
  rw [List.getElem?_take, if_pos hj]; exact hy
 unfold findIn
 cases hf : ((evIds ps).take (off ps p + i)).find? (fun x => decide (x.2.kind = 2) && decide (x.2.msg = ps[p].evs[i].msg)) with
 | some x => exact evIds_pos ps x (List.mem_of_mem_take (List.mem_of_find?_eq_some hf))
 | none =>
  rw [List.find?_eq_none] at hf
  have := hf y hmem
  simp [hc.1, hc.2] at this
theorem sndr_some {ps : List Pr} {m : Int} (h : 0 < (sndr ps m).2) : ∃ (p : Nat) (hp : p < ps.length) (i : Nat) (hi : i < ps[p].evs.length), sndr ps m = ((p : Int), (i : Int) + 1) ∧ ps[p].evs[i].kind = 2 ∧ ps[p].evs[i].msg = m := by
 obtain ⟨e, he, h1, h2⟩ := findIn_mem h
 obtain ⟨k, hk⟩ := List.getElem?_of_mem he
 obtain ⟨p, hp, i, hi, _, e2⟩ := evIds_inv hk
 have e3 := congrArg Prod.fst e2
 have e4 := congrArg Prod.snd e2
 dsimp only at e3 e4
 subst e4
 exact ⟨p, hp, i, hi, e3, h1, h2⟩
def sentA (ps : List Pr) (S : Nat → List (List Int)) (m : Int) : AV :=
 if 0 < (sndr ps m).2 ∧ (sndr ps m).2 ≤ (S (sndr ps m).1.toNat).length then aInts (stOf S (sndr ps m).1.toNat ((sndr ps m).2 - 1).toNat) else anil
theorem sentA_init (ps : List Pr) (m : Int) : sentA ps (fun _ => []) m = anil := by
 unfold sentA
 rw [if_neg (by simp)]
theorem sentA_step {ps : List Pr} {S : Nat → List (List Int)} (hv : validF ps = true) {p : Nat} (hr : Rdy ps (lenS S) p) (v : List Int) (m : Int) :
  sentA ps (upS S p v) m = if (evq ps p (S p).length).kind = 2 ∧ (evq ps p (S p).length).msg = m then aInts v else sentA ps S m := by
 obtain ⟨hp, hl, _⟩ := hr
 simp only [lenS] at hl
 have hl' : (S p).length < ps[p].evs.length := by rw [nev_get hp] at hl; exact hl
 rw [evq_get hp hl']
 by_cases hc : ps[p].evs[(S p).length].kind = 2 ∧ ps[p].evs[(S p).length].msg = m
 ·rw [if_pos hc]
  have hs := valid_unique hv hp hl' hc.1
  rw [hc.2] at hs
  unfold sentA
  rw [hs]
  simp only [Int.toNat_natCast]
  have e : ((((S p).length : Int) + 1) - 1).toNat = (S p).length := by omega
  rw [e, upS_new, if_pos]
  rw [upS_len, if_pos rfl]
  omega
 ·rw [if_neg hc]
  unfold sentA
  by_cases h0 : 0 < (sndr ps m).2
  ·obtain ⟨q, hq, i, hi, e, k1, k2⟩ := sndr_some h0
   rw [e]
   simp only [Int.toNat_natCast]
   have e1 : (((i : Int) + 1) - 1).toNat = i := by omega
   rw [e1]
   have hiff : (i : Int) + 1 ≤ (upS S p v q).length ↔ (i : Int) + 1 ≤ (S q).length := by
    rw [upS_len]
    by_cases eq : q = p
    ·subst eq
     rw [if_pos rfl]
     have : i ≠ (S q).length := fun ei => by subst ei; exact hc ⟨k1, k2⟩
     omega
    ·rw [if_neg eq]
   by_cases hin : (i : Int) + 1 ≤ (S q).length
   ·rw [if_pos ⟨by omega, hiff.2 hin⟩, if_pos ⟨by omega, hin⟩, upS_old (by omega)]
   ·rw [if_neg fun h => hin (hiff.1 h.2), if_neg fun h => hin h.2]
  ·rw [if_neg fun h => h0 h.1, if_neg fun h => h0 h.1]
def totS (n : Nat) (c : Nat → Nat) : Nat := ((List.range n).map c).sum
theorem totS_succ (n : Nat) (c : Nat → Nat) : totS (n + 1) c = totS n c + c n := by simp [totS, List.range_succ]
theorem totS_bump {c c' : Nat → Nat} {p : Nat} (h : ∀ q, c' q = if q = p then c q + 1 else c q) (n : Nat) : totS n c' = totS n c + if p < n then 1 else 0 := by
 induction n with
 | zero => simp [totS]
 | succ n ih =>
  rw [totS_succ, totS_succ, ih, h n]
  by_cases e : n = p
  ·subst e; rw [if_pos rfl, if_neg (by omega), if_pos (by omega)]; omega
  ·rw [if_neg e]
   by_cases h1 : p < n
   ·rw [if_pos h1, if_pos (by omega)]; omega
   ·rw [if_neg h1, if_neg (by omega)]; omega
theorem totS_up {S : Nat → List (List Int)} {p n : Nat} (hp : p < n) (v : List Int) : totS n (lenS (upS S p v)) = totS n (lenS S) + 1 := by
 rw [totS_bump (c := lenS S) (p := p) (fun q => by unfold lenS; rw [upS_len]; split <;> simp_all) n, if_pos hp]
theorem totS_le {c : Nat → Nat} {B : Nat} (n : Nat) (h : ∀ q, q < n → c q ≤ B) : totS n c ≤ n * B := by
 induction n with
 | zero => simp [totS]
 | succ n ih =>
  rw [totS_succ, Nat.add_mul]
  have := ih fun q hq => h q (by omega)
  have := h n (by omega)
  omega
theorem gen_exists {ps : List Pr} (hs : Sm ps) : ∃ S, Gen ps S ∧ ∀ p, ¬ Rdy ps (lenS S) p := by
 have hb : ∀ S, Gen ps S → totS ps.length (lenS S) ≤ ps.length * 1000000 := fun S h => totS_le _ fun q hq => by
  have h1 := h.le_nev q
  rw [nev_get hq] at h1
  have h2 := hs.evs _ (List.getElem_mem hq)
  unfold lenS; omega
 have key : ∀ m S, Gen ps S → ps.length * 1000000 - totS ps.length (lenS S) ≤ m → ∃ S, Gen ps S ∧ ∀ p, ¬ Rdy ps (lenS S) p := by
  intro m
  induction m with
  | zero =>
   intro S h hm
   refine ⟨S, h, fun p hr => ?_⟩
   have h1 := hb _ (h.step hr)
   rw [totS_up hr.1] at h1
   omega
  | succ m ih =>
   intro S h hm
   by_cases hx : ∃ p, Rdy ps (lenS S) p
   ·obtain ⟨p, hr⟩ := hx
    refine ih _ (h.step hr) ?_
    rw [totS_up hr.1]
    omega
   ·exact ⟨S, h, fun p hr => hx ⟨p, hr⟩⟩
 exact key _ _ .init (Nat.le_refl _)
theorem stampF_gen {ps : List Pr} (hs : Sm ps) : Gen ps (stampF ps) ∧ ∀ p, ¬ Rdy ps (lenS (stampF ps)) p := by
 obtain ⟨S, h, hm⟩ := gen_exists hs
 rw [stampF_eq h hm]; exact ⟨h, hm⟩
noncomputable def knownF (ps : List Pr) (order : List Int) (k : Nat) : List (List Int) :=
 (List.range ps.length).map fun q => if doneF order k q = 0 then List.replicate ps.length 0 else stOf (stampF ps) q (doneF order k q - 1)
noncomputable def peakF (ps : List Pr) (order : List Int) : Nat → Int
 | 0 => 0
 | k + 1 => max (peakF ps order k) (keptF (knownF ps order (k + 1)))
theorem known_rows {ps : List Pr} (hg : Gen ps (stampF ps)) (hm : ∀ p, ¬ Rdy ps (lenS (stampF ps)) p) {order : List Int} {k : Nat} (hk : k ≤ order.length) (hr : RunOk ps order k) :
  ∀ r ∈ knownF ps order k, r.length = ps.length ∧ ∀ j, 0 ≤ r.getD j 0 ∧ r.getD j 0 ≤ doneF order k j := by
 intro r hmem
 unfold knownF at hmem
 obtain ⟨q, hq, rfl⟩ := List.mem_map.1 hmem
 by_cases h0 : doneF order k q = 0
 ·rw [if_pos h0]
  exact ⟨by simp, fun j => by rw [zeros_getD]; omega⟩
 ·rw [if_neg h0]
  have hle := run_le hm hk hr q
  exact ⟨(hg.bound q _ (by omega)).1, run_bound hg hm hk hr q _ (by omega)⟩
theorem known_len (ps : List Pr) (order : List Int) (k : Nat) : (knownF ps order k).length = ps.length := by simp [knownF]
theorem RunOk.le {ps : List Pr} {order : List Int} {k j : Nat} (h : RunOk ps order k) (hj : j ≤ k) : RunOk ps order j := fun i hi => h i (by omega)
end Go.AL
end
section
namespace Go.AL
open Go Go.RowKit
section
variable {C : Cfg} {c : Code} {Q : AQ} {ρ : Env} {L : AHeap}
theorem AWp.perm {L' : AHeap} (hp : L.Perm L') (h : AWp C c Q ρ L') : AWp C c Q ρ L :=
 AWp.st (fun _ _ _ _ _ hs => st_view hs (Lf := []) (Lk := L') hp (LVw.refl _) fun _ => .inr (.refl _)) h
theorem AWp.nodup (h : (L.map (·.1)).Nodup → AWp C c Q ρ L) : AWp C c Q ρ L := fun hok n w0 M A0 a w hs => by
 obtain ⟨A, ds, hs'⟩ := st_iff.1 hs
 exact h hs'.l.nodup hok n w0 M A0 a w hs
theorem AWp.viewP {Lf Lk L' : AHeap} (hp : L.Perm (Lf ++ Lk)) (hv : LVw Lf Lk L') (sv : List (Nat × AV)) (hs : ∀ p ∈ sv, Vw Lf (get ρ p.1) p.2) (h : AWp C c Q (sv ++ ρ) L') : AWp C c Q ρ L := by
 refine AWp.st (fun w0 M A0 a w hst => st_view hst hp hv fun i => .inr ?_) h
 clear h
 induction sv with
 | nil => exact .refl _
 | cons p sv ih =>
  obtain ⟨j, x⟩ := p
  simp only [List.cons_append, get]
  split
  ·rename_i e; subst e; exact hs (i, x) List.mem_cons_self
  ·exact ih fun p hp => hs p (List.mem_cons_of_mem _ hp)
theorem AWp.postV (h : AWp C c (fun e ρ' L1 => ∃ Lf Lk L', L1.Perm (Lf ++ Lk) ∧ LVw Lf Lk L' ∧ Q e ρ' L') ρ L) : AWp C c Q ρ L := fun hok n w0 M A0 a w hs =>
 wpIn_mono (h hok n w0 M A0 a w hs) fun _ _ _ ⟨ρ', _, ⟨_, _, L', hp, hv, hq⟩, hst⟩ => ⟨ρ', L', hq, st_view hst hp hv fun _ => .inr (.refl _)⟩
theorem AWp.rowLe {b k cap : Nat} {t : TypeId} {xs : List AV} (hm : (b, .row t k xs cap) ∈ L) (h : xs.length ≤ cap → AWp C c Q ρ L) : AWp C c Q ρ L := fun hok n w0 M A0 a w hs => by
 obtain ⟨A, ds, hs'⟩ := st_iff.1 hs
 obtain ⟨_, _, _, h3, _⟩ := hs'.l.blk _ hm
 exact h h3 hok n w0 M A0 a w hs
theorem AWp.loopN (ls ks : List Nat) (I : Nat → List AV → AHeap → Prop) (m0 : Nat) (h0 : I m0 (ls.map (get ρ)) L)
  (round : ∀ m vs L', vs.length = ls.length → I m vs L' → AWp C c (roundQ ls ks ρ (fun vs' L'' => ∃ m', m' < m ∧ I m' vs' L'') Q) (lenv ls ks vs ρ) L') : AWp C (.loop c) Q ρ L := by
 open Classical in
 let μ : List AV → AHeap → Nat := fun vs L => if h : ∃ m, I m vs L then Classical.choose (least h) else 0
 refine AWp.loop ls ks (fun vs L => ∃ m, I m vs L) μ ⟨m0, h0⟩ fun vs L' hl hI => ?_
 have hμ : μ vs L' = Classical.choose (least hI) := dif_pos hI
 have hm := (Classical.choose_spec (least hI)).1
 refine (round _ vs L' hl hm).mono fun e ρ' L'' hq => ?_
 cases e with
 | normal =>
  obtain ⟨h1, L3, h2, m', h3, h4⟩ := hq
  have hx : ∃ m, I m (ls.map (get ρ')) L3 := ⟨m', h4⟩
  refine ⟨h1, L3, h2, hx, ?_⟩
  have e : μ (ls.map (get ρ')) L3 = Classical.choose (least hx) := dif_pos hx
  rw [e, hμ]
  exact Nat.lt_of_le_of_lt ((Classical.choose_spec (least hx)).2 _ h4) h3
 | _ => exact hq
end
theorem lk_of_mem {L : AHeap} (hn : (L.map (·.1)).Nodup) {b : Nat} {x : ABlk} (h : (b, x) ∈ L) : lk L b = some x := by
 induction L with
 | nil => cases h
 | cons y r ih =>
  obtain ⟨b', y⟩ := y
  simp only [List.map_cons, List.nodup_cons] at hn
  simp only [lk]
  rcases List.mem_cons.1 h with e | h'
  ·cases e; rw [if_pos rfl]
  ·have hne : ¬ b = b' := fun e => by subst e; exact hn.1 (List.mem_map_of_mem (f := (·.1)) h')
   rw [if_neg hne, ih hn.2 h']
theorem flatMap_ext {α β : Type} {f g : α → List β} : ∀ {l : List α}, (∀ x ∈ l, f x = g x) → l.flatMap f = l.flatMap g
 | [], _ => rfl
 | x :: l, h => by simp only [List.flatMap_cons]; rw [h x (by simp), flatMap_ext fun y hy => h y (List.mem_cons_of_mem _ hy)]
def famL (n : Nat) (Ls : Nat → AHeap) : AHeap := (List.range n).flatMap Ls
def famR (n p : Nat) (Ls : Nat → AHeap) : AHeap := ((List.range n).erase p).flatMap Ls
theorem fam_split {n p : Nat} (hp : p < n) (Ls : Nat → AHeap) : (famL n Ls).Perm (Ls p ++ famR n p Ls) := by
 have h := List.Perm.flatMap_right Ls (List.perm_cons_erase (List.mem_range.2 hp))
 rwa [List.flatMap_cons] at h
theorem famR_congr {n p : Nat} {Ls Ls' : Nat → AHeap} (h : ∀ q, q ≠ p → Ls' q = Ls q) : famR n p Ls' = famR n p Ls :=
 flatMap_ext fun q hq => h q fun e => by subst e; exact (List.nodup_range.not_mem_erase) hq
theorem fam_nil (n : Nat) : famL n (fun _ => []) = [] := by unfold famL; simp
theorem map_range_set (n p : Nat) (V : Nat → AV) (x : AV) : ((List.range n).map V).set p x = (List.range n).map fun q => if q = p then x else V q := by
 apply List.ext_getElem?
 intro i
 rw [List.getElem?_set, List.getElem?_map, List.getElem?_map]
 by_cases hi : i < n
 ·rw [List.getElem?_range hi]
  by_cases e : p = i
  ·subst e; simp [hi]
  ·rw [if_neg e]; simp [Ne.symm e]
 ·have : (List.range n)[i]? = none := by simp; omega
  rw [this]
  split
  ·split
   ·rename_i h; simp at h; omega
   ·rfl
  ·rfl
theorem fam_views {n k : Nat} {t : TypeId} {V : Nat → AV} {Ls : Nat → AHeap} {Y : Nat → List AV} (hn : ((famL n Ls).map (·.1)).Nodup) (h : ∀ p, p < n → AppSt t k (Y p) (V p) (Ls p)) :
  Vws (famL n Ls) ((List.range n).map V) ((List.range n).map fun p => .sl k (Y p)) := by
 refine ⟨by simp, fun i x y hx hy => ?_⟩
 by_cases hi : i < n
 ·rw [List.getElem?_map, List.getElem?_range hi] at hx hy
  cases hx; cases hy
  show Vw (famL n Ls) (V i) (.sl k (Y i))
  rcases (h i hi).inv with ⟨e1, e2, _⟩ | ⟨b, cap, e1, e2⟩
  ·rw [e1, e2]; exact .nil k
  ·rw [e1]
   refine Vw.ofLs (t := t) (cap := cap) (lk_of_mem hn ?_) rfl
   unfold famL
   exact List.mem_flatMap.2 ⟨i, List.mem_range.2 hi, by rw [e2]; exact List.mem_singleton_self _⟩
 ·have : (List.range n)[i]? = none := by simp; omega
  rw [List.getElem?_map, this] at hx; cases hx
theorem map_range_getD {n p : Nat} (hp : p < n) (V : Nat → AV) : ((List.range n).map V).getD p .any = V p := by
 rw [List.getD_eq_getElem?_getD, List.getElem?_map, List.getElem?_range hp]; rfl
end Go.AL
end
section
namespace Go.AL
open Go Go.RowKit
set_option maxRecDepth 4000
theorem vector_joined (v w : List Int) (n : Nat) (hn : 0 < n) (hn2 : n ≤ 1000000) (hv : v.length = n) (hw : w.length = n) : MCalls Proofs.Tryz.prog 202 [aInts v, aInts w] [] fun r L => AppSt 3 1 ((joinV v w).map ai) r L := by
 refine MCalls.enter' 28 [.tmp 4] [] Proofs.Tryz.func202 rfl rfl rfl rfl rfl (by simp) (AWp.of ?_); simp only [go_sem]
 repeat (first | ((with_reducible refine AWp.ofC ?_ ?_); exact rfl; simp only [go_sem]) | ((with_reducible refine an ?_ ?_); exact Au))
 refine (ints_cloneO v (by omega)).val.mono ?_
 rintro r L hA
 rcases hA.inv with ⟨e1, rfl, rfl⟩ | ⟨b, cap, rfl, rfl⟩
 ·have : v.length = 0 := by simpa using congrArg List.length e1
  omega
 ·have hzl : (joinV v w).length = v.length := joinV_length (by omega)
  simp only [go_sem]
  repeat (first | ((with_reducible refine AWp.ofC ?_ ?_); exact rfl; simp only [go_sem]) | ((with_reducible refine an ?_ ?_); exact Au))
  refine AWp.range' n [] [5, 10, 11] (fun j vs L => L = [(b, .row 3 1 (((joinV v w).take j ++ v.drop j).map ai) cap)]) (by omega) rfl (by simp [get, hw]) rfl (by simp) ?_ ?_
  ·rintro j vs L' hj - rfl
   have hjw : j < w.length := by omega
   have hjv : j < v.length := by omega
   have hgd : (List.map ai ((joinV v w).take j ++ v.drop j)).getD j .any = ai v[j] := by
    rw [List.getD_eq_getElem?_getD, List.getElem?_map, upd_get hzl hjv]; rfl
   have hus := upd_set hzl hjv
   have hzj : (joinV v w)[j]'(by omega) = max v[j] w[j] := List.getElem_zipWith
   rw [hzj] at hus
   have hul : ((joinV v w).take j ++ v.drop j).length = n := by rw [List.length_append, List.length_take, List.length_drop]; omega
   rw [← hus]
   generalize (joinV v w).take j ++ v.drop j = cur at *
   simp only [go_sem]
   repeat ((with_reducible refine an ?_ ?_); exact As)
   refine AWp.of ?_; simp only [go_sem, getD_map hjw]
   repeat (first | ((with_reducible refine AWp.ofC ?_ ?_); exact rfl; simp only [go_sem, hgd]) | ((with_reducible refine an ?_ ?_); exact Au))
   repeat ((with_reducible refine an ?_ ?_); exact As)
   have hmx : (if v[j] < w[j] then w[j] else v[j]) = max v[j] w[j] := by split <;> omega
   refine ⟨_, List.Sublist.refl _, ?_⟩
   rw [List.map_set, hmx]
  ·rintro vs L' - rfl
   simp only [go_sem]
   repeat (first | ((with_reducible refine AWp.ofC ?_ ?_); exact rfl; simp only [go_sem]) | ((with_reducible refine an ?_ ?_); exact Au))
   rw [List.take_of_length_le (by omega), List.drop_of_length_le (by omega), List.append_nil]
   refine ret_own ?_
   simp only [go_sem]
   have e : v.length = ((joinV v w).map ai).length := by rw [List.length_map, hzl]
   rw [e]; exact .row _ _ _
end Go.AL
end
section
namespace Go.AL
open Go Go.RowKit
def dnA (n : Nat) (c : Nat → Nat) : List AV := (List.range n).map fun q => ai (c q)
theorem dnA_length (n : Nat) (c : Nat → Nat) : (dnA n c).length = n := by simp [dnA]
theorem dnA_set {n p : Nat} {c c' : Nat → Nat} {x : Int} (hx : (c' p : Int) = x) (ho : ∀ q, q ≠ p → c' q = c q) : (dnA n c).set p (ai x) = dnA n c' := by
 unfold dnA
 rw [map_range_set]; congr 1; funext q
 by_cases e : q = p
 ·rw [if_pos e, e, hx]
 ·rw [if_neg e, ho q e]
theorem dnA_get {n p : Nat} (hp : p < n) (c : Nat → Nat) : (dnA n c).getD p .any = ai (c p) := map_range_getD hp _
theorem nd2 {b c : Nat} {x y : ABlk} {r : AHeap} (h : ((((b, x) :: (c, y) :: r : AHeap)).map (·.1)).Nodup) : ¬ b = c ∧ ¬ c = b ∧ ∀ z ∈ r, (¬ b = z.1 ∧ ¬ z.1 = b) ∧ ¬ c = z.1 ∧ ¬ z.1 = c := by
 simp only [List.map_cons, List.nodup_cons, List.mem_cons, not_or, List.mem_map, not_exists, not_and] at h
 obtain ⟨⟨h1, h2⟩, h3, _⟩ := h
 exact ⟨h1, fun e => h1 e.symm, fun z hz => ⟨⟨fun e => h2 z hz e.symm, h2 z hz⟩, fun e => h3 z hz e.symm, h3 z hz⟩⟩
theorem nd3 {b c d : Nat} {x y z : ABlk} {r : AHeap} (h : ((((b, x) :: (c, y) :: (d, z) :: r : AHeap)).map (·.1)).Nodup) : (¬ b = c ∧ ¬ c = b) ∧ (¬ b = d ∧ ¬ d = b) ∧ (¬ c = d ∧ ¬ d = c) ∧ ∀ w ∈ r, (¬ b = w.1 ∧ ¬ w.1 = b) ∧ (¬ c = w.1 ∧ ¬ w.1 = c) ∧ ¬ d = w.1 ∧ ¬ w.1 = d := by
 obtain ⟨h1, h2, h3⟩ := nd2 h
 rw [List.map_cons, List.nodup_cons] at h
 obtain ⟨h4, h5, h6⟩ := nd2 h.2
 exact ⟨⟨h1, h2⟩, (h3 (d, z) List.mem_cons_self).1, ⟨h4, h5⟩, fun w hw => ⟨(h3 w (List.mem_cons_of_mem _ hw)).1, (h6 w hw).1, (h6 w hw).2⟩⟩
theorem getD_setA (xs : List AV) (i j : Nat) (x : AV) : (xs.set i x).getD j .any = if i = j ∧ i < xs.length then x else xs.getD j .any := by
 rw [List.getD_eq_getElem?_getD, List.getElem?_set]
 by_cases h : i = j
 ·subst h
  by_cases h2 : i < xs.length
  ·simp [h2]
  ·simp [h2]
 ·simp [h, List.getD_eq_getElem?_getD]
end Go.AL
end
section
namespace Go.AL
open Go Go.RowKit
set_option maxRecDepth 4000
def VSt (n bo bs : Nat) (S : Nat → List (List Int)) (T : Int → AV) (L : AHeap) : Prop :=
 ∃ (V : Nat → AV) (Ls : Nat → AHeap) (SV : List AV), L.Perm ((bs, .row 42 1 SV 200) :: (bo, .row 39 1 ((List.range n).map V) n) :: famL n Ls) ∧
  (∀ p, p < n → AppSt 42 1 ((S p).map aInts) (V p) (Ls p)) ∧ SV.length = 200 ∧ ∀ m : Int, 0 ≤ m → m ≤ 199 → SV.getD m.toNat .any = T m
theorem VSt.perm {n bo bs : Nat} {S : Nat → List (List Int)} {T : Int → AV} {L L' : AHeap} (hp : L'.Perm L) (h : VSt n bo bs S T L) : VSt n bo bs S T L' :=
 let ⟨V, Ls, SV, h1, h2⟩ := h
 ⟨V, Ls, SV, hp.trans h1, h2⟩
theorem VSt.open {n bo bs : Nat} {S : Nat → List (List Int)} {T : Int → AV} {L : AHeap} (h : VSt n bo bs S T L) {p : Nat} (hp : p < n) :
  ∃ (V : Nat → AV) (Ls : Nat → AHeap) (SV : List AV), L.Perm ((bs, .row 42 1 SV 200) :: (bo, .row 39 1 ((List.range n).map V) n) :: (Ls p ++ famR n p Ls)) ∧
   AppSt 42 1 ((S p).map aInts) (V p) (Ls p) ∧ SV.length = 200 ∧ (∀ m : Int, 0 ≤ m → m ≤ 199 → SV.getD m.toNat .any = T m) ∧
   ∀ (S' : Nat → List (List Int)) (T' : Int → AV) (x : AV) (Lp : AHeap) (SV' : List AV) (L' : AHeap), (∀ q, q ≠ p → S' q = S q) → AppSt 42 1 ((S' p).map aInts) x Lp → SV'.length = 200 → (∀ m : Int, 0 ≤ m → m ≤ 199 → SV'.getD m.toNat .any = T' m) →
    L'.Perm ((bs, .row 42 1 SV' 200) :: (bo, .row 39 1 (((List.range n).map V).set p x) n) :: (Lp ++ famR n p Ls)) → VSt n bo bs S' T' L' := by
 obtain ⟨V, Ls, SV, h1, h2, h3, h4⟩ := h
 refine ⟨V, Ls, SV, h1.trans (((fam_split hp Ls).cons _).cons _), h2 p hp, h3, h4, fun S' T' x Lp SV' L' hS hA hl hT hL => ?_⟩
 refine ⟨fun q => if q = p then x else V q, fun q => if q = p then Lp else Ls q, SV', ?_, fun q hq => ?_, hl, hT⟩
 ·refine hL.trans ?_
  rw [map_range_set]
  refine (List.Perm.cons _ (List.Perm.cons _ ?_))
  have hsp := fam_split hp (fun q => if q = p then Lp else Ls q)
  rw [if_pos rfl, famR_congr (Ls := Ls) (fun q hq => if_neg hq)] at hsp
  exact hsp.symm
 ·by_cases e : q = p
  ·subst e; dsimp only; rw [if_pos rfl, if_pos rfl]; exact hA
  ·dsimp only; rw [if_neg e, if_neg e, hS q e]; exact h2 q hq
set_option maxHeartbeats 8000000 in
theorem vector_stamps (ps : List Pr) (hs : Sm ps) (hv : validF ps = true) : PC Proofs.Tryz.prog 163 [aTr ps] (aRows3 ((List.range ps.length).map (stampF ps))) := by
 obtain ⟨hl1, hl8⟩ := valid_len hv
 have hfm := valid_formed hv
 refine PC.enter 107 [.tmp 2] [1, 7, 8, 102] Proofs.Tryz.func163 rfl rfl rfl rfl rfl (by simp) (AWp.of ?_); simp only [go_sem]
 repeat ((with_reducible refine an ?_ ?_); exact As)
 refine AWp.of ?_; simp only [go_sem]
 repeat ((with_reducible refine an ?_ ?_); exact As)
 intro bo
 repeat ((with_reducible refine an ?_ ?_); exact As)
 refine AWp.of ?_; simp only [go_sem]
 repeat ((with_reducible refine an ?_ ?_); exact As)
 intro bs hbs
 repeat (first | ((with_reducible refine AWp.ofC ?_ ?_); exact rfl; simp only [go_sem]) | ((with_reducible refine an ?_ ?_); exact Au))
 have hL0 : VSt ps.length bo bs (fun _ => []) (sentA ps fun _ => []) [(bs, .row 42 1 (List.replicate 200 anil) 200), (bo, .row 39 1 (List.replicate ps.length anil) ps.length)] := by
  refine ⟨fun _ => anil, fun _ => [], List.replicate 200 anil, ?_, fun p _ => .nil, by simp, fun m h1 h2 => ?_⟩
  ·rw [fam_nil, List.map_const', List.length_range]
  ·rw [sentA_init, List.getD_eq_getElem?_getD, List.getElem?_replicate, if_pos (by omega)]; rfl
 have hB : ∀ S, Gen ps S → totS ps.length (lenS S) ≤ ps.length * 1000000 := fun S h => totS_le _ fun q hq => by
  have h1 := h.le_nev q
  rw [nev_get hq] at h1
  have h2 := hs.evs _ (List.getElem_mem hq)
  unfold lenS; omega
 refine AWp.block (AWp.loopN [5] [1, 3, 4] (fun m vs L => ∃ S g, vs = [ab g] ∧ VSt ps.length bo bs S (sentA ps S) L ∧ Gen ps S ∧ (g = false → ∀ p, ¬ Rdy ps (lenS S) p) ∧ m = 2 * (ps.length * 1000000 - totS ps.length (lenS S)) + (if g = true then 1 else 0))
  _ ⟨_, true, rfl, hL0, .init, fun h => (by cases h), rfl⟩ ?_)
 rintro m vs L' - ⟨S0, g0, rfl, hV0, hG0, hno0, hm⟩
 simp only [go_sem]
 repeat (first | ((with_reducible refine AWp.ofC ?_ ?_); exact rfl; simp only [go_sem]) | ((with_reducible refine an ?_ ?_); exact Au))
 refine ⟨fun h1 => ?_, fun h1 => ?_⟩
 ·repeat (first | ((with_reducible refine AWp.ofC ?_ ?_); exact rfl; simp only [go_sem]) | ((with_reducible refine an ?_ ?_); exact Au))
  refine AWp.range' ps.length [5] [1, 3, 4, 18, 19] (fun p vs L => ∃ S g, vs = [ab g] ∧ VSt ps.length bo bs S (sentA ps S) L ∧ Gen ps S ∧ (g = false → S = S0 ∧ ∀ q, q < p → ¬ Rdy ps (lenS S) q) ∧ (g = true → totS ps.length (lenS S0) < totS ps.length (lenS S)))
   (by omega) rfl rfl rfl ⟨S0, false, rfl, hV0, hG0, fun _ => ⟨rfl, fun q hq => by omega⟩, fun h => by cases h⟩ ?_ ?_
  ·rintro p vs L' hp - ⟨S1, g1, rfl, hV1, hG1, hf1, ht1⟩
   have hm := List.getElem_mem hp
   have hel := hs.evs _ hm
   simp only [go_sem]
   repeat ((with_reducible refine an ?_ ?_); exact As)
   refine AWp.of ?_; simp only [go_sem, getD_map hp]
   repeat ((with_reducible refine an ?_ ?_); exact As)
   intros
   refine AWp.of ?_; simp only [go_sem]
   refine AWp.loopN [5] [1, 3, 4, 6, 7, 18, 19, 20] (fun m vs L => ∃ S g, vs = [ab g] ∧ VSt ps.length bo bs S (sentA ps S) L ∧ Gen ps S ∧ (g = false → S = S0 ∧ ∀ q, q < p → ¬ Rdy ps (lenS S) q) ∧ (g = true → totS ps.length (lenS S0) < totS ps.length (lenS S)) ∧ m = 1000000 - (S p).length)
    (1000000 - (S1 p).length) ?_ ?_
   ·exact ⟨S1, g1, rfl, hV1, hG1, hf1, ht1, rfl⟩
   rintro m' vs L' - ⟨S, g, rfl, hV, hG, hf, ht, hm'⟩
   have hle := hG.le_nev p
   rw [nev_get hp] at hle
   simp only [go_sem]
   refine AWp.seq ?_
   refine AWp.cut [1, 3, 4, 5, 6, 7, 18, 19, 20, 33] (fun vs L => VSt ps.length bo bs S (sentA ps S) L ∧ vs = [.rp 1 [aTr ps] 0 0, .ls bo 1 0 ps.length ps.length, .ls bs 1 0 200 200, ab g, ai p, .rp 3 [aPr ps[p]] 0 0, .sl 3 (ps.map aPr), ai ps.length, ai p, ab (decide (((S p).length : Int) < ps[p].evs.length))]) ?_ ?_
   ·obtain ⟨V, Ls, SV, hP, hA, hSl, hT, _⟩ := hV.open hp
    refine AWp.perm hP (AWp.nodup fun hnd => ?_)
    have hVN := hV.perm hP.symm
    obtain ⟨n1, n2, n3⟩ := nd2 hnd
    rcases hA.inv with ⟨e1, e2, e3⟩ | ⟨b, cap, e2, e3⟩
    ·have hgd : ((List.range ps.length).map V).getD p .any = anil := by rw [map_range_getD hp, e2]
     have e4 : (S p).length = 0 := by simpa using congrArg List.length e1
     rw [e3] at hVN ⊢
     refine AWp.mix mixed [0, 1, 2, 5, 6, 7] (.step 3 (.step 4 (.step 8 .done .done) .done) .done) (by kernel_rfl) ?_; simp only [go_sem, hgd, n2]
     repeat ((with_reducible refine an ?_ ?_); exact As)
     exact ⟨_, List.Sublist.refl _, hVN, by rw [e4]; rfl⟩
    ·have hgd : ((List.range ps.length).map V).getD p .any = .ls b 1 0 (S p).length cap := by rw [map_range_getD hp, e2, List.length_map]
     rw [e3] at hVN n3 ⊢
     obtain ⟨⟨n4, n5⟩, n6, n7⟩ := n3 (b, _) (List.mem_append_left _ (List.mem_singleton_self _))
     refine AWp.mix mixed [0, 1, 2, 5, 6, 7] (.step 3 (.step 4 (.step 8 .done .done) .done) .done) (by kernel_rfl) ?_; simp only [go_sem, hgd, n2, n6]
     repeat ((with_reducible refine an ?_ ?_); exact As)
     exact ⟨_, List.Sublist.refl _, hVN, rfl⟩
   ·rintro vs L2 - ⟨hV, rfl⟩
    simp only [go_sem]
    repeat (first | ((with_reducible refine AWp.ofC ?_ ?_); exact rfl; simp only [go_sem]) | ((with_reducible refine an ?_ ?_); exact Au))
    refine ⟨fun h2 => ?_, fun h2 => ?_⟩
    ·have hk : (S p).length < ps[p].evs.length := by omega
     have hfe := hfm p hp _ (List.getElem_mem hk)
     have heq := evq_get hp hk
     refine AWp.block ?_
     refine AWp.cut [1, 3, 4, 5, 6, 7, 8, 18, 19, 20] (fun vs L => VSt ps.length bo bs S (sentA ps S) L ∧ vs = [.rp 1 [aTr ps] 0 0, .ls bo 1 0 ps.length ps.length, .ls bs 1 0 200 200, ab g, ai p, .rp 3 [aPr ps[p]] 0 0, .rp 5 [aEv ps[p].evs[(S p).length]] 0 0, .sl 3 (ps.map aPr), ai ps.length, ai p]) ?_ ?_
     ·obtain ⟨V, Ls, SV, hP, hA, hSl, hT, _⟩ := hV.open hp
      refine AWp.perm hP (AWp.nodup fun hnd => ?_)
      have hVN := hV.perm hP.symm
      obtain ⟨n1, n2, n3⟩ := nd2 hnd
      rcases hA.inv with ⟨e1, e2, e3⟩ | ⟨b, cap, e2, e3⟩
      ·have hgd : ((List.range ps.length).map V).getD p .any = anil := by rw [map_range_getD hp, e2]
       have e4 : (S p).length = 0 := by simpa using congrArg List.length e1
       have hk0 : 0 < ps[p].evs.length := by omega
       rw [e3] at hVN ⊢
       refine AWp.mix mixed [0, 1, 2, 3, 4] (.step 5 (.step 6 (.step 7 (.step 8 (.step 9 (.step 10 .done .done) .done) (.step 9 (.step 8 (.step 10 .done .done) .done) .done)) (.step 9 (.step 7 (.step 8 (.step 10 .done .done) .done) .done) .done)) (.step 9 (.step 6 (.step 7 (.step 8 (.step 10 .done .done) .done) .done) .done) .done)) (.step 9 (.step 5 (.step 6 (.step 7 (.step 8 (.step 10 .done .done) .done) .done) .done) .done) .done)) (by kernel_rfl) ?_; simp only [go_sem, hgd, n2, getD_map hk0]
       repeat' (first | (with_reducible refine And.intro ?_ ?_) | intro _)
       all_goals first | omega | exact ⟨_, List.Sublist.refl _, hVN, by simp only [e4]⟩ | (simp; done) | (simp; omega) | (rename_i bN k1 k2 k3; have nb : ¬ bo = bN := (by omega); simp only [go_sem, nb, hgd, getD_map hk0])
       all_goals repeat' (first | (with_reducible refine And.intro ?_ ?_) | intro _)
       all_goals first | omega | exact ⟨_, List.Sublist.refl _, hVN, by simp only [e4]⟩ | (simp; done) | (simp; omega)
      ·have hgd : ((List.range ps.length).map V).getD p .any = .ls b 1 0 (S p).length cap := by rw [map_range_getD hp, e2, List.length_map]
       rw [e3] at hVN n3 ⊢
       obtain ⟨⟨n4, n5⟩, n6, n7⟩ := n3 (b, _) (List.mem_append_left _ (List.mem_singleton_self _))
       refine AWp.mix mixed [0, 1, 2, 3, 4] (.step 5 (.step 6 (.step 7 (.step 8 (.step 9 (.step 10 .done .done) .done) (.step 9 (.step 8 (.step 10 .done .done) .done) .done)) (.step 9 (.step 7 (.step 8 (.step 10 .done .done) .done) .done) .done)) (.step 9 (.step 6 (.step 7 (.step 8 (.step 10 .done .done) .done) .done) .done) .done)) (.step 9 (.step 5 (.step 6 (.step 7 (.step 8 (.step 10 .done .done) .done) .done) .done) .done) .done)) (by kernel_rfl) ?_; simp only [go_sem, hgd, n2, n6, getD_map hk]
       repeat' (first | (with_reducible refine And.intro ?_ ?_) | intro _)
       all_goals first | omega | exact ⟨_, List.Sublist.refl _, hVN⟩ | (simp; done) | (simp; omega) | (rename_i bN k1 k2 k3 k4; have nb : ¬ bo = bN := (by omega); simp only [go_sem, nb, hgd, getD_map hk])
       all_goals repeat' (first | (with_reducible refine And.intro ?_ ?_) | intro _)
       all_goals first | omega | exact ⟨_, List.Sublist.refl _, hVN⟩ | (simp; done) | (simp; omega)
     ·rintro vs L3 - ⟨hV, rfl⟩
      generalize he : ps[p].evs[(S p).length] = e at *
      simp only [go_sem]
      repeat ((with_reducible refine an ?_ ?_); exact As)
      refine AWp.of ?_; simp only [go_sem]
      repeat ((with_reducible refine an ?_ ?_); exact As)
      intro bv hbv
      refine AWp.cut [1, 3, 4, 5, 6, 7, 8, 9, 18, 19, 20] (fun vs L => ∃ L1, L = (bv, .row 3 1 ((preV ps S p (S p).length).map ai) ps.length) :: L1 ∧ VSt ps.length bo bs S (sentA ps S) L1 ∧
       vs = [.rp 1 [aTr ps] 0 0, .ls bo 1 0 ps.length ps.length, .ls bs 1 0 200 200, ab g, ai p, .rp 3 [aPr ps[p]] 0 0, .rp 5 [aEv e] 0 0, .ls bv 1 0 ps.length ps.length, .sl 3 (ps.map aPr), ai ps.length, ai p]) ?_ ?_
      ·obtain ⟨V, Ls, SV, hP, hA, hSl, hT, _⟩ := hV.open hp
       refine AWp.perm (hP.cons _) (AWp.nodup fun hnd => ?_)
       have hVN := hV.perm hP.symm
       obtain ⟨⟨m1, m2⟩, ⟨m3, m4⟩, ⟨n1, n2⟩, n3⟩ := nd3 hnd
       rcases hA.inv with ⟨e1, e2, e3⟩ | ⟨b, cap, e2, e3⟩
       ·have hgd : ((List.range ps.length).map V).getD p .any = anil := by rw [map_range_getD hp, e2]
        have e4 : (S p).length = 0 := by simpa using congrArg List.length e1
        have e5 : (preV ps S p (S p).length).map ai = List.replicate ps.length (ai 0) := by unfold preV; rw [if_pos e4, List.map_replicate]
        rw [e3] at hVN ⊢
        repeat (first | ((with_reducible refine AWp.ofC ?_ ?_); exact rfl; simp only [go_sem, hgd, m4, n2, List.length_range]) | ((with_reducible refine an ?_ ?_); exact Au))
        intro _
        rw [e5]
        exact ⟨_, List.Sublist.refl _, _, rfl, hVN⟩
       ·have hgd : ((List.range ps.length).map V).getD p .any = .ls b 1 0 (S p).length cap := by rw [map_range_getD hp, e2, List.length_map]
        rw [e3] at hVN n3 ⊢
        obtain ⟨⟨q1, q2⟩, ⟨n4, n5⟩, n6, n7⟩ := n3 (b, _) (List.mem_append_left _ (List.mem_singleton_self _))
        by_cases h0 : (S p).length = 0
        ·have e5 : (preV ps S p (S p).length).map ai = List.replicate ps.length (ai 0) := by unfold preV; rw [if_pos h0, List.map_replicate]
         repeat (first | ((with_reducible refine AWp.ofC ?_ ?_); exact rfl; simp only [go_sem, hgd, m1, m3, m4, n2, n5, n6, n7, q1, q2, List.length_range]) | ((with_reducible refine an ?_ ?_); exact Au))
         intro _
         rw [e5]
         exact ⟨_, List.Sublist.refl _, _, rfl, hVN⟩
        ·have hb1 := hG.bound p ((S p).length - 1) (by omega)
         have e5 : preV ps S p (S p).length = stOf S p ((S p).length - 1) := by unfold preV; rw [if_neg h0]
         have hgk : (List.map aInts (S p)).getD (((S p).length : Int) - 1).toNat .any = .sl 1 ((stOf S p ((S p).length - 1)).map ai) := by
          have e6 : (((S p).length : Int) - 1).toNat = (S p).length - 1 := by omega
          rw [e6, getD_map (by omega)]
          simp [aInts, stOf, show (S p).length - 1 < (S p).length by omega]
         repeat (first | ((with_reducible refine AWp.ofC ?_ ?_); exact rfl; simp only [go_sem, hgd, hgk, m1, m3, m4, n2, n5, n6, n7, q1, q2, List.length_range]) | ((with_reducible refine an ?_ ?_); exact Au))
         refine ⟨fun h3 => ?_, fun h3 => ?_⟩
         ·repeat ((with_reducible refine an ?_ ?_); exact As)
          rw [e5]
          generalize stOf S p ((S p).length - 1) = y at *
          rw [show min y.length ps.length = y.length by omega, List.take_length, List.drop_of_length_le (by simp; omega), List.append_nil]
          exact ⟨_, List.Sublist.refl _, _, rfl, hVN⟩
         ·exfalso; omega
      ·rintro vs L4 - ⟨L1, rfl, hV, rfl⟩
       simp only [go_sem]
       refine AWp.cut [1, 3, 4, 5, 6, 7, 8, 9, 18, 19, 20] (fun vs L => Rdy ps (lenS S) p ∧ ∃ b2 cap L1, L = (b2, .row 3 1 ((rawV ps S p (S p).length).map ai) cap) :: L1 ∧ VSt ps.length bo bs S (sentA ps S) L1 ∧
        vs = [.rp 1 [aTr ps] 0 0, .ls bo 1 0 ps.length ps.length, .ls bs 1 0 200 200, ab g, ai p, .rp 3 [aPr ps[p]] 0 0, .rp 5 [aEv e] 0 0, .ls b2 1 0 ps.length cap, .sl 3 (ps.map aPr), ai ps.length, ai p]) ?_ ?_
       ·obtain ⟨V, Ls, SV, hP, hA, hSl, hT, _⟩ := hV.open hp
        refine AWp.perm (hP.cons _) (AWp.nodup fun hnd => ?_)
        have hVN := hV.perm hP.symm
        obtain ⟨⟨m1, m2⟩, ⟨m3, m4⟩, ⟨n1, n2⟩, n3⟩ := nd3 hnd
        have hpl : (preV ps S p (S p).length).length = ps.length := by
         unfold preV
         by_cases h0 : (S p).length = 0
         ·rw [if_pos h0]; simp
         ·rw [if_neg h0]; exact (hG.bound p _ (by omega)).1
        by_cases k3 : e.kind = 3
        ·obtain ⟨b1, b2, _⟩ := formed_msg hfe (.inr k3)
         have hsv := hT e.msg b1 b2
         have hml : e.msg.toNat < SV.length := by omega
         by_cases hs1 : 0 < (sndr ps e.msg).2 ∧ (sndr ps e.msg).2 ≤ (S (sndr ps e.msg).1.toNat).length
         ·have hrd : Rdy ps (lenS S) p := ⟨hp, by rw [nev_get hp]; exact hk, fun _ => by unfold lenS; rw [heq]; exact hs1⟩
          have hw := hG.bound (sndr ps e.msg).1.toNat ((sndr ps e.msg).2 - 1).toNat (by omega)
          have hraw : rawV ps S p (S p).length = joinV (preV ps S p (S p).length) (stOf S (sndr ps e.msg).1.toNat ((sndr ps e.msg).2 - 1).toNat) := by unfold rawV; rw [heq, if_pos k3]
          rw [hraw]
          unfold sentA at hsv
          rw [if_pos hs1] at hsv
          simp only [aInts] at hsv
          generalize stOf S (sndr ps e.msg).1.toNat ((sndr ps e.msg).2 - 1).toNat = w at *
          repeat (first | ((with_reducible refine AWp.ofC ?_ ?_); exact rfl; simp only [go_sem, hsv, hSl, m2, n1]) | ((with_reducible refine an ?_ ?_); exact Au))
          refine ⟨fun h3 => ?_, fun h3 => ?_⟩
          ·repeat (first | ((with_reducible refine AWp.ofC ?_ ?_); exact rfl; simp only [go_sem]) | ((with_reducible refine an ?_ ?_); exact Au))
           intro h4
           repeat (first | ((with_reducible refine AWp.ofC ?_ ?_); exact rfl; simp only [go_sem, hsv, hSl, m2, n1]) | ((with_reducible refine an ?_ ?_); exact Au))
           refine (MCalls.viewed (L := (bv, .row 3 1 ((preV ps S p (S p).length).map ai) ps.length) :: (bs, .row 42 1 SV 200) :: (bo, .row 39 1 ((List.range ps.length).map V) ps.length) :: (Ls p ++ famR ps.length p Ls))
            (Vws.cons (Vw.ofLs (t := 3) (cap := ps.length) (if_pos rfl) (by rw [List.length_map, hpl])) (Vws.cons (.refl _) .nil)) (vector_joined (preV ps S p (S p).length) w ps.length (by omega) (by omega) hpl hw.1) (fun r L1 h => h.own (own_ints _))).val.mono ?_
           rintro r L' ⟨L5, rfl, hA5⟩
           rcases hA5.inv with ⟨e1, _, _⟩ | ⟨b3, cap3, rfl, rfl⟩
           ·have h9 := congrArg List.length e1
            rw [List.length_map, joinV_length (by rw [hpl, hw.1]), hpl] at h9
            have h10 : ps.length = 0 := h9
            omega
           ·simp only [go_sem]
            rw [joinV_length (by rw [hpl, hw.1]), hpl]
            exact ⟨_, List.Sublist.cons_cons _ (List.sublist_cons_self _ _), hrd, _, _, _, rfl, hVN, rfl⟩
          ·exact absurd k3 h3
         ·unfold sentA at hsv
          rw [if_neg hs1] at hsv
          repeat (first | ((with_reducible refine AWp.ofC ?_ ?_); exact rfl; simp only [go_sem, hsv, hSl, m2, n1]) | ((with_reducible refine an ?_ ?_); exact Au))
          refine ⟨fun h3 => ?_, fun h3 => ?_⟩
          ·repeat (first | ((with_reducible refine AWp.ofC ?_ ?_); exact rfl; simp only [go_sem]) | ((with_reducible refine an ?_ ?_); exact Au))
           refine ⟨fun _ => ⟨rfl, _, List.sublist_cons_self _ _, S, g, rfl, hVN, hG, fun hg => ?_, ht⟩, fun h => absurd rfl h⟩
           obtain ⟨e1, e2⟩ := hf hg
           refine ⟨e1, fun q hq => ?_⟩
           by_cases e : q = p
           ·subst e
            intro hr
            have := hr.2.2 (by unfold lenS; rw [heq]; exact k3)
            unfold lenS at this
            rw [heq] at this
            exact hs1 this
           ·exact e2 q (by omega)
          ·exact absurd k3 h3
        ·have hrd : Rdy ps (lenS S) p := ⟨hp, by rw [nev_get hp]; exact hk, fun h => by unfold lenS at h; rw [heq] at h; exact absurd h k3⟩
         have hraw : rawV ps S p (S p).length = preV ps S p (S p).length := by unfold rawV; rw [heq, if_neg k3]
         rw [hraw]
         repeat (first | ((with_reducible refine AWp.ofC ?_ ?_); exact rfl; simp only [go_sem]) | ((with_reducible refine an ?_ ?_); exact Au))
         intro _
         exact ⟨_, List.Sublist.refl _, hrd, _, _, _, rfl, hVN, rfl⟩
       ·rintro vs L5 - ⟨hrd, b2, cap2, L6, rfl, hV, rfl⟩
        obtain ⟨hr1, hr2⟩ := hG.next hrd
        have hrp := hr2 p
        have hgp : ((rawV ps S p (S p).length).map ai).getD p .any = ai ((rawV ps S p (S p).length).getD p 0) := by
         have : p < (rawV ps S p (S p).length).length := by omega
         rw [getD_map this]; simp [this]
        have hvl : (vecV ps S p (S p).length).length = ps.length := (tickV_length _ _).trans hr1
        have hst : ((rawV ps S p (S p).length).map ai).set p (ai ((rawV ps S p (S p).length).getD p 0 + 1)) = (vecV ps S p (S p).length).map ai := by
         unfold vecV tickV; rw [List.map_set]
        generalize (rawV ps S p (S p).length).getD p 0 = x at *
        generalize rawV ps S p (S p).length = raw at *
        simp only [go_sem]
        repeat ((with_reducible refine an ?_ ?_); exact As)
        refine AWp.of ?_; simp only [go_sem, hgp]
        repeat ((with_reducible refine an ?_ ?_); exact As)
        rw [hst]
        have sst := sentA_step hv hrd (vecV ps S p (S p).length)
        rw [heq] at sst
        generalize hvec : vecV ps S p (S p).length = vec at *
        refine AWp.view [true] [(9, .sl 1 (vec.map ai))] (LVw.refl _) ?_ ?_
        ·intro q hq
         simp only [List.mem_singleton] at hq
         subst hq
         show Vw _ _ (.sl 1 (vec.map ai))
         simp only [go_sem]
         exact Vw.ofLs (t := 3) (cap := cap2) (if_pos rfl) (by rw [List.length_map, hvl])
        simp only [go_sem]
        refine AWp.cut [1, 3, 4, 5, 6, 7, 9, 18, 19, 20] (fun vs L => VSt ps.length bo bs S (sentA ps (upS S p vec)) L ∧
         vs = [.rp 1 [aTr ps] 0 0, .ls bo 1 0 ps.length ps.length, .ls bs 1 0 200 200, ab g, ai p, .rp 3 [aPr ps[p]] 0 0, .sl 1 (vec.map ai), .sl 3 (ps.map aPr), ai ps.length, ai p]) ?_ ?_
        ·obtain ⟨V, Ls, SV, hP, hA, hSl, hT, hcl⟩ := hV.open hp
         refine AWp.perm hP (AWp.nodup fun hnd => ?_)
         obtain ⟨n1, n2, n3⟩ := nd2 hnd
         have hset : ((List.range ps.length).map V).set p (V p) = (List.range ps.length).map V := by
          rw [map_range_set]; congr 1; funext q
          by_cases e : q = p
          ·rw [if_pos e, e]
          ·rw [if_neg e]
         by_cases k2 : e.kind = 2
         ·obtain ⟨b1, b3, _⟩ := formed_msg hfe (.inl k2)
          have hml : e.msg.toNat < SV.length := by omega
          have hsh : SV.getD e.msg.toNat .any = anil ∨ ∃ l, SV.getD e.msg.toNat .any = .sl 1 l := by
           rw [hT e.msg b1 b3]
           unfold sentA
           split
           ·exact .inr ⟨_, rfl⟩
           ·exact .inl rfl
          repeat (first | ((with_reducible refine AWp.ofC ?_ ?_); exact rfl; simp only [go_sem]) | ((with_reducible refine an ?_ ?_); exact Au))
          refine ⟨fun h3 => ?_, fun h3 => ?_⟩
          ·rcases hsh with hsv | ⟨l, hsv⟩
           ·repeat (first | ((with_reducible refine AWp.ofC ?_ ?_); exact rfl; simp only [go_sem, hSl, hsv, n1, n2]) | ((with_reducible refine an ?_ ?_); exact Au))
            simp only [hsv]
            refine ⟨_, List.Sublist.refl _, hcl S _ (V p) (Ls p) (SV.set e.msg.toNat (.sl 1 (vec.map ai))) _ (fun _ _ => rfl) hA (by rw [List.length_set]; exact hSl) (fun m g1 g2 => ?_) (by rw [hset])⟩
            rw [getD_setA, sst m]
            by_cases em : e.msg = m
            ·subst em; rw [if_pos ⟨rfl, hml⟩, if_pos ⟨k2, rfl⟩]; rfl
            ·rw [if_neg (by omega), if_neg fun h => em h.2, hT m g1 g2]
           ·repeat (first | ((with_reducible refine AWp.ofC ?_ ?_); exact rfl; simp only [go_sem, hSl, hsv, n1, n2]) | ((with_reducible refine an ?_ ?_); exact Au))
            simp only [hsv]
            refine ⟨_, List.Sublist.refl _, hcl S _ (V p) (Ls p) (SV.set e.msg.toNat (.sl 1 (vec.map ai))) _ (fun _ _ => rfl) hA (by rw [List.length_set]; exact hSl) (fun m g1 g2 => ?_) (by rw [hset])⟩
            rw [getD_setA, sst m]
            by_cases em : e.msg = m
            ·subst em; rw [if_pos ⟨rfl, hml⟩, if_pos ⟨k2, rfl⟩]; rfl
            ·rw [if_neg (by omega), if_neg fun h => em h.2, hT m g1 g2]
          ·exact absurd k2 h3
         ·repeat (first | ((with_reducible refine AWp.ofC ?_ ?_); exact rfl; simp only [go_sem]) | ((with_reducible refine an ?_ ?_); exact Au))
          intro _
          refine ⟨_, List.Sublist.refl _, hcl S _ (V p) (Ls p) SV _ (fun _ _ => rfl) hA hSl (fun m g1 g2 => ?_) (by rw [hset])⟩
          rw [hT m g1 g2, sst m, if_neg fun h => k2 h.1]
        ·rintro vs L7 - ⟨hV, rfl⟩
         simp only [go_sem]
         obtain ⟨V, Ls, SV, hP, hA, hSl, hT, hcl⟩ := hV.open hp
         refine AWp.perm hP (AWp.nodup fun hnd => ?_)
         obtain ⟨n1, n2, n3⟩ := nd2 hnd
         have hnew : upS S p vec p = S p ++ [vec] := if_pos rfl
         have hold : ∀ q, q ≠ p → upS S p vec q = S q := fun q hq => if_neg hq
         have hG' : Gen ps (upS S p vec) := by rw [← hvec]; exact hG.step hrd
         have htot := totS_up hp (S := S) vec
         have hmono : g = false → totS ps.length (lenS S0) ≤ totS ps.length (lenS S) := fun hg => by rw [(hf hg).1]; exact Nat.le_refl _
         have hfin : totS ps.length (lenS S0) < totS ps.length (lenS (upS S p vec)) := by
          rw [htot]
          cases hg : g with
          | true => have := ht hg; omega
          | false => have := hmono hg; omega
         have hlen' : (upS S p vec p).length = (S p).length + 1 := by rw [hnew]; simp
         rcases hA.inv with ⟨e1, e2, e3⟩ | ⟨b, cap, e2, e3⟩
         ·have hgd : ((List.range ps.length).map V).getD p .any = anil := by rw [map_range_getD hp, e2]
          rw [e3] at n3 ⊢
          repeat ((with_reducible refine an ?_ ?_); exact As)
          refine AWp.of ?_; simp only [go_sem, hgd, n2, List.length_range]
          repeat ((with_reducible refine an ?_ ?_); exact As)
          intro b' cap' g1 g2 g3 g4
          have nb : ¬ bo = b' := by omega
          have hS0 : S p = [] := by simpa using e1
          simp only [go_sem, nb, hgd, List.length_range]
          repeat ((with_reducible refine an ?_ ?_); exact As)
          repeat (first | ((with_reducible refine AWp.ofC ?_ ?_); exact rfl; simp only [go_sem]) | ((with_reducible refine an ?_ ?_); exact Au))
          refine ⟨rfl, _, List.Sublist.refl _, 1000000 - (upS S p vec p).length, by omega, upS S p vec, true, rfl, hcl (upS S p vec) _ (.ls b' 1 0 1 cap') [(b', .row 42 1 [aInts vec] cap')] SV _ hold ?_ hSl hT ?_, hG', fun h => (by cases h), fun _ => hfin, rfl⟩
          ·rw [hnew, hS0]; exact .row _ [_] _
          ·exact List.perm_append_comm_assoc [_] [_, _] _
         ·have hgd : ((List.range ps.length).map V).getD p .any = .ls b 1 0 (S p).length cap := by rw [map_range_getD hp, e2, List.length_map]
          rw [e3] at n3 ⊢
          obtain ⟨⟨n4, n5⟩, n6, n7⟩ := n3 (b, _) (List.mem_append_left _ (List.mem_singleton_self _))
          repeat ((with_reducible refine an ?_ ?_); exact As)
          refine AWp.of ?_; simp only [go_sem, hgd, n2, n5, n6, n7, List.length_range]
          repeat ((with_reducible refine an ?_ ?_); exact As)
          intro b' cap' g1 g2 g3 g4
          simp only [go_sem, g2, hgd, List.length_range]
          repeat ((with_reducible refine an ?_ ?_); exact As)
          repeat (first | ((with_reducible refine AWp.ofC ?_ ?_); exact rfl; simp only [go_sem]) | ((with_reducible refine an ?_ ?_); exact Au))
          refine ⟨rfl, _, List.Sublist.refl _, 1000000 - (upS S p vec p).length, by omega, upS S p vec, true, rfl, hcl (upS S p vec) _ (.ls b' 1 0 ((S p).length + 1) cap') [(b', .row 42 1 ((S p).map aInts ++ [aInts vec]) cap')] SV _ hold ?_ hSl hT ?_, hG', fun h => (by cases h), fun _ => hfin, rfl⟩
          ·rw [hnew, List.map_append]
           have := AppSt.row (t := 42) (k := 1) b' ((S p).map aInts ++ [aInts vec]) cap'
           simpa using this
          ·exact List.perm_append_comm_assoc [_] [_, _] _
    ·refine ⟨rfl, _, List.Sublist.refl _, S, g, rfl, hV, hG, fun hg => ?_, ht⟩
     obtain ⟨e1, e2⟩ := hf hg
     refine ⟨e1, fun q hq => ?_⟩
     by_cases e : q = p
     ·subst e
      intro hr
      have := hr.2.1
      rw [nev_get hp] at this
      simp only [lenS] at this
      omega
     ·exact e2 q (by omega)
  ·rintro vs L' - ⟨S, g, rfl, hV, hG, hf, ht⟩
   simp only [go_sem]
   refine ⟨_, List.Sublist.refl _, _, ?_, S, g, rfl, hV, hG, fun hg q => ?_, rfl⟩
   ·have hb := hB S hG
    cases g with
    | true => have := ht rfl; rw [hm, h1]; simp only [if_true]; omega
    | false =>
     obtain ⟨rfl, _⟩ := hf rfl
     rw [hm, h1]; simp
   ·by_cases hq : q < ps.length
    ·exact (hf hg).2 q hq
    ·exact fun hr => hq hr.1
 ·have hst := stampF_eq hG0 (hno0 h1)
  obtain ⟨V, Ls, SV, hP, hA, hSl, hT⟩ := hV0
  refine AWp.nodup fun hnd => ?_
  have hnd' : ((famL ps.length Ls).map (·.1)).Nodup := by
   have := (hP.map (·.1)).nodup_iff.1 hnd
   simp only [List.map_cons, List.nodup_cons] at this
   exact this.2.2
  refine AWp.viewP (Lf := famL ps.length Ls) (Lk := [(bs, .row 42 1 SV 200), (bo, .row 39 1 ((List.range ps.length).map V) ps.length)]) (hP.trans (List.perm_append_comm (l₁ := [_, _]))) (.drop (.row (fam_views hnd' hA) .nil)) [] (by simp) ?_
  simp only [go_sem]
  repeat (first | ((with_reducible refine AWp.ofC ?_ ?_); exact rfl; simp only [go_sem]) | ((with_reducible refine an ?_ ?_); exact Au))
  refine ret_view [true] ?_; simp only [go_sem]
  rw [hst]
  rw [List.map_map]
  exact Vw.ofLs (if_pos rfl) (by simp)
end Go.AL
end
section
namespace Go.AL
open Go Go.RowKit
set_option maxRecDepth 4000
noncomputable def aStamps (ps : List Pr) : AV := if validF ps then .tup [aRows3 ((List.range ps.length).map (stampF ps)), ai 0] else .tup [.sl 1 [], ai 1]
theorem vector_Stamps (ps : List Pr) (hs : Sm ps) : PC Proofs.Tryz.prog 104 [aTr ps] (aStamps ps) := by
 refine PC.enter 9 [.tmp 2, .tmp 3] [1] Proofs.Tryz.func104 rfl rfl rfl rfl rfl (by simp) (AWp.of ?_); simp only [go_sem]
 repeat (first | ((with_reducible refine AWp.ofC ?_ ?_); exact rfl; simp only [go_sem]) | ((with_reducible refine an ?_ ?_); exact Au))
 repeat ((with_reducible refine an ?_ ?_); exact As)
 refine (trace_Valid ps hs).val.use ?_; simp only [go_sem]
 unfold aStamps
 cases hv : validF ps with
 | true =>
  repeat (first | ((with_reducible refine AWp.ofC ?_ ?_); exact rfl; simp only [go_sem]) | ((with_reducible refine an ?_ ?_); exact Au))
  repeat ((with_reducible refine an ?_ ?_); exact As)
  refine (vector_stamps ps hs hv).val.use ?_; simp only [go_sem]
  repeat (first | ((with_reducible refine AWp.ofC ?_ ?_); exact rfl; simp only [go_sem]) | ((with_reducible refine an ?_ ?_); exact Au))
  refine ret_eq ?_; simp only [go_sem]
 | false =>
  repeat (first | ((with_reducible refine AWp.ofC ?_ ?_); exact rfl; simp only [go_sem]) | ((with_reducible refine an ?_ ?_); exact Au))
  refine ret_view [] ?_; simp only [go_sem]
  exact .mkTup (Vws.cons (.nil 1) (Vws.refl _))
theorem prune_ready (ps : List Pr) (hs : Sm ps) (hv : validF ps = true) (c : Nat → Nat) (hc : ∀ q, c q ≤ 1000000) (p : Nat) (hp : p < ps.length) :
  PC Proofs.Tryz.prog 107 [aTr ps, .sl 1 ((List.range ps.length).map fun q => ai (c q)), ai p] (ab (decide (Rdy ps c p))) := by
 obtain ⟨hl1, hl8⟩ := valid_len hv
 have hel := hs.evs _ (List.getElem_mem hp)
 have hgd : ∀ q : Nat, q < ps.length → (List.map (fun q => ai (c q)) (List.range ps.length)).getD q .any = ai (c q) := fun q hq => map_range_getD hq _
 have hgp := hgd p hp
 have hcp := hc p
 have hnp := nev_get hp
 refine PC.enter 55 [.tmp 6] [3, 7, 8] Proofs.Tryz.func107 rfl rfl rfl rfl rfl (by simp) (AWp.of ?_); simp only [go_sem]
 refine AWp.seq (AWp.seq ?_)
 refine AWp.drawn mixed 11 (by kernel_rfl) ?_; simp only [go_sem, hgp, getD_map hp, List.length_range]
 repeat ((with_reducible refine an ?_ ?_); exact As)
 repeat (first | ((with_reducible refine AWp.ofC ?_ ?_); exact rfl; simp only [go_sem]) | ((with_reducible refine an ?_ ?_); exact Au))
 refine ⟨fun h1 => ?_, fun h1 => ?_⟩
 ·repeat (first | ((with_reducible refine AWp.ofC ?_ ?_); exact rfl; simp only [go_sem]) | ((with_reducible refine an ?_ ?_); exact Au))
  refine ret_eq ?_; simp only [go_sem]
  rw [decide_eq_false (show ¬ Rdy ps c p from fun h => by have := h.2.1; omega)]
 ·have hk : c p < ps[p].evs.length := by omega
  have heq := evq_get hp hk
  have hfv : findV ps 2 ps[p].evs[c p].msg = sndr ps ps[p].evs[c p].msg := by unfold findV; rw [hv]; rfl
  have hsn := trace_Sender ps hs ps[p].evs[c p].msg
  rw [hfv] at hsn
  obtain ⟨hf1, hf2⟩ := findIn_proc hl1 2 ps[p].evs[c p].msg
  have hgs := hgd (sndr ps ps[p].evs[c p].msg).1.toNat (by unfold sndr; omega)
  have hse : sndr ps ps[p].evs[c p].msg = findIn (evIds ps) 2 ps[p].evs[c p].msg := rfl
  rw [← hse] at hf1 hf2
  have hrd : Rdy ps c p ↔ (ps[p].evs[c p].kind = 3 → 0 < (sndr ps ps[p].evs[c p].msg).2 ∧ (sndr ps ps[p].evs[c p].msg).2 ≤ c (sndr ps ps[p].evs[c p].msg).1.toNat) := by
   unfold Rdy
   rw [heq]
   exact ⟨fun h => h.2.2, fun h => ⟨hp, by omega, h⟩⟩
  have hgk := getD_map (f := aEv) hk
  generalize ps[p].evs[c p] = e at *
  generalize sndr ps e.msg = s at *
  refine AWp.seq ?_
  refine AWp.mix mixed [0, 1, 2, 3, 4, 5, 6, 7, 8, 9, 10, 11] (.step 12 (.step 13 .done .done) .done) (by kernel_rfl) ?_; simp only [go_sem, hgp, hgk, getD_map hp, List.length_range]
  repeat ((with_reducible refine an ?_ ?_); exact As)
  intro b8
  repeat (first | ((with_reducible refine AWp.ofC ?_ ?_); exact rfl; simp only [go_sem]) | ((with_reducible refine an ?_ ?_); exact Au))
  refine ⟨fun h2 => ?_, fun h2 => ?_⟩
  ·repeat (first | ((with_reducible refine AWp.ofC ?_ ?_); exact rfl; simp only [go_sem]) | ((with_reducible refine an ?_ ?_); exact Au))
   refine ret_eq ?_; simp only [go_sem]
   rw [decide_eq_true (hrd.2 fun h => absurd h h2)]
  ·repeat (first | ((with_reducible refine AWp.ofC ?_ ?_); exact rfl; simp only [go_sem]) | ((with_reducible refine an ?_ ?_); exact Au))
   repeat ((with_reducible refine an ?_ ?_); exact As)
   refine (hsn).val.use ?_; simp only [go_sem]
   repeat ((with_reducible refine an ?_ ?_); exact As)
   intro b9
   refine AWp.seq ?_
   refine AWp.drawn mixed 10 (by kernel_rfl) ?_; simp only [go_sem, hgs, List.length_range]
   repeat (first | ((with_reducible refine AWp.ofC ?_ ?_); exact rfl; simp only [go_sem]) | ((with_reducible refine an ?_ ?_); exact Au))
   refine ret_eq ?_; simp only [go_sem]
   have : decide (Rdy ps c p) = (decide (0 < s.2) && decide (s.2 ≤ c s.1.toNat)) := by
    rw [← Bool.decide_and]; exact decide_eq_decide.2 (hrd.trans ⟨fun h => h h2, fun h _ => h⟩)
   rw [this]
theorem prune_Peak1 (p : Int) (n : Nat) : PC Proofs.Tryz.prog 106 [ai p, .rp 1 [ai n] 0 0] (ab (decide (p < 0) || decide ((n : Int) ≤ p))) := by
 refine PC.enter 11 [.tmp 3] [] Proofs.Tryz.func106 rfl rfl rfl rfl rfl (by simp) (AWp.of ?_); simp only [go_sem]
 repeat (first | ((with_reducible refine AWp.ofC ?_ ?_); exact rfl; simp only [go_sem]) | ((with_reducible refine an ?_ ?_); exact Au))
 refine ret_eq ?_; simp only [go_sem]
theorem Vws.set {L : AHeap} {xs ys : List AV} {a b : AV} (h : Vws L xs ys) (hab : Vw L a b) (i : Nat) : Vws L (xs.set i a) (ys.set i b) := by
 refine ⟨by rw [List.length_set, List.length_set]; exact h.1, fun j x y hx hy => ?_⟩
 rw [List.getElem?_set] at hx hy
 by_cases e : i = j
 ·subst e
  rw [if_pos rfl] at hx hy
  split at hx
  ·split at hy
   ·cases hx; cases hy; exact hab
   ·cases hy
  ·cases hx
 ·rw [if_neg e] at hx hy; exact h.2 j x y hx hy
def knA (n : Nat) (f : Nat → List Int) : List AV := (List.range n).map fun q => .sl 1 ((f q).map ai)
noncomputable def knQ (ps : List Pr) (order : List Int) (k q : Nat) : List Int := if doneF order k q = 0 then List.replicate ps.length 0 else stOf (stampF ps) q (doneF order k q - 1)
theorem knA_known (ps : List Pr) (order : List Int) (k : Nat) : (knownF ps order k).map aInts = knA ps.length (knQ ps order k) := by
 unfold knownF knA knQ
 rw [List.map_map]; rfl
theorem knA_length (n : Nat) (f : Nat → List Int) : (knA n f).length = n := by simp [knA]
theorem knA_set {n p : Nat} {f f' : Nat → List Int} {x : List Int} (hx : f' p = x) (ho : ∀ q, q ≠ p → f' q = f q) : (knA n f).set p (.sl 1 (x.map ai)) = knA n f' := by
 unfold knA
 rw [map_range_set]; congr 1; funext q
 by_cases e : q = p
 ·rw [if_pos e, e, hx]
 ·rw [if_neg e, ho q e]
def badP (n : Nat) (p : Int) : Bool := decide (p < 0) || decide ((n : Int) ≤ p)
open Classical in
noncomputable def aPeak (ps : List Pr) (order : List Int) : AV :=
 if validF ps = false then .tup [ai 0, ai 1] else if order.any (badP ps.length) = true then .tup [ai 0, ai 2] else if RunOk ps order order.length then .tup [ai (peakF ps order order.length), ai 0] else .tup [ai 0, ai 11]
theorem prune_Peak (ps : List Pr) (hs : Sm ps) (order : List Int) (ho : order.length ≤ 1000000) : PC Proofs.Tryz.prog 50 [aTr ps, aInts order] (aPeak ps order) := by
 have hst := vector_Stamps ps hs
 unfold aStamps at hst
 cases hv : validF ps with
 | false =>
  have e : aPeak ps order = .tup [ai 0, ai 1] := by unfold aPeak; rw [if_pos hv]
  rw [e]
  rw [hv] at hst
  have h10 : ¬ (1 : Int) = 0 := by decide
  refine PC.enter 80 [.tmp 4, .tmp 5] [2, 8] Proofs.Tryz.func50 rfl rfl rfl rfl rfl (by simp) (AWp.of ?_); simp only [go_sem]
  repeat (first | ((with_reducible refine AWp.ofC ?_ ?_); exact rfl; simp only [go_sem]) | ((with_reducible refine an ?_ ?_); exact Au))
  repeat ((with_reducible refine an ?_ ?_); exact As)
  refine (hst).val.use ?_; simp only [go_sem]
  repeat (first | ((with_reducible refine AWp.ofC ?_ ?_); exact rfl; simp only [go_sem, h10]) | ((with_reducible refine an ?_ ?_); exact Au))
  refine ret_eq ?_; simp only [go_sem]
 | true =>
  obtain ⟨hl1, hl8⟩ := valid_len hv
  obtain ⟨hG, hmx⟩ := stampF_gen hs
  rw [hv, if_pos rfl] at hst
  refine PC.enter 80 [.tmp 4, .tmp 5] [2, 8] Proofs.Tryz.func50 rfl rfl rfl rfl rfl (by simp) (AWp.of ?_); simp only [go_sem]
  repeat (first | ((with_reducible refine AWp.ofC ?_ ?_); exact rfl; simp only [go_sem]) | ((with_reducible refine an ?_ ?_); exact Au))
  repeat ((with_reducible refine an ?_ ?_); exact As)
  refine (hst).val.use ?_; simp only [go_sem]
  repeat (first | ((with_reducible refine AWp.ofC ?_ ?_); exact rfl; simp only [go_sem]) | ((with_reducible refine an ?_ ?_); exact Au))
  intro b8
  repeat (first | ((with_reducible refine AWp.ofC ?_ ?_); exact rfl; simp only [go_sem]) | ((with_reducible refine an ?_ ?_); exact Au))
  repeat ((with_reducible refine an ?_ ?_); exact As)
  refine (ints_containsFunc order ho (.clo 106 [.rp 1 [ai ps.length] 0 0]) rfl (badP ps.length) fun p _ => (prune_Peak1 p ps.length).clo).val.use ?_; simp only [go_sem]
  have hbad : order.any (badP ps.length) = false → ∀ j, j < order.length → 0 ≤ order.getD j 0 ∧ order.getD j 0 < ps.length := fun h j hj => by
   have := List.any_eq_false.1 h _ (List.getElem_mem hj)
   have e : order.getD j 0 = order[j] := by simp [hj]
   rw [e]
   simp [badP] at this
   omega
  repeat (first | ((with_reducible refine AWp.ofC ?_ ?_); exact rfl; simp only [go_sem]) | ((with_reducible refine an ?_ ?_); exact Au))
  refine ⟨fun h1 => ?_, fun h1 => ?_⟩
  ·have e : aPeak ps order = .tup [ai 0, ai 2] := by unfold aPeak; rw [if_neg (by rw [hv]; decide), if_pos h1]
   rw [e]
   repeat (first | ((with_reducible refine AWp.ofC ?_ ?_); exact rfl; simp only [go_sem]) | ((with_reducible refine an ?_ ?_); exact Au))
   refine ret_eq ?_; simp only [go_sem]
  ·have hob := hbad h1
   refine AWp.cut [1, 2, 6, 8, 9, 10] (fun vs L => ∃ bd bk, L.Perm [(bk, .row 42 1 (List.replicate ps.length anil) ps.length), (bd, .row 3 1 (List.replicate ps.length (ai 0)) ps.length)] ∧
    vs = [aInts order, .rp 1 [aTr ps] 0 0, aRows3 ((List.range ps.length).map (stampF ps)), .rp 1 [ai ps.length] 0 0, .ls bd 1 0 ps.length ps.length, .ls bk 1 0 ps.length ps.length]) ?_ ?_
   ·refine AWp.mix mixed [0, 2] (.step 1 (.step 3 (.step 4 (.step 5 .done .done) .done) (.step 4 (.step 3 (.step 5 .done .done) .done) .done)) (.step 3 (.step 1 (.step 4 (.step 5 .done .done) .done) .done) .done)) (by kernel_rfl) ?_; simp only [go_sem]
    repeat' (first | (with_reducible refine And.intro ?_ ?_) | intro _)
    all_goals first | omega | exact ⟨_, List.Sublist.refl _, _, _, .refl _, rfl⟩ | exact ⟨_, List.Sublist.refl _, _, _, .swap _ _ _, rfl⟩
   ·rintro vs L - ⟨bd, bk, hP, rfl⟩
    refine AWp.perm hP (AWp.nodup fun hnd => ?_)
    have n1 : ¬ bk = bd := by simpa using hnd
    have n2 : ¬ bd = bk := fun e => n1 e.symm
    have hL0 : List.replicate ps.length anil = (List.range ps.length).map fun q => if q < 0 then AV.sl 1 ((List.replicate ps.length (0 : Int)).map ai) else anil := by
     apply List.ext_getElem (by simp); intro i h1 h2; simp
    have hD0 : List.replicate ps.length (ai 0) = dnA ps.length (doneF order 0) := by
     unfold dnA; apply List.ext_getElem (by simp); intro i h1 h2; simp [doneF_zero]
    simp only [go_sem]
    repeat ((with_reducible refine an ?_ ?_); exact As)
    refine AWp.of ?_; simp only [go_sem]
    rw [hL0, hD0]
    refine AWp.range' ps.length [] [1, 2, 6, 8, 9, 10, 34] (fun k vs L => L = [(bk, .row 42 1 ((List.range ps.length).map fun q => if q < k then AV.sl 1 ((List.replicate ps.length (0 : Int)).map ai) else anil) ps.length), (bd, .row 3 1 (dnA ps.length (doneF order 0)) ps.length)]) (by omega) rfl rfl rfl rfl ?_ ?_
    ·rintro k vs L' hk - rfl
     have hgk : ((List.range ps.length).map fun q => if q < k then AV.sl 1 ((List.replicate ps.length (0 : Int)).map ai) else anil).getD k .any = anil := by rw [map_range_getD hk, if_neg (Nat.lt_irrefl k)]
     simp only [go_sem]
     repeat ((with_reducible refine an ?_ ?_); exact As)
     refine AWp.of ?_; simp only [go_sem]
     refine AWp.postV ?_
     repeat ((with_reducible refine an ?_ ?_); exact As)
     refine AWp.of ?_; simp only [go_sem, n1]
     repeat ((with_reducible refine an ?_ ?_); exact As)
     intro bn g1 g2
     have m1 : ¬ bk = bn := by omega
     simp only [go_sem, m1, hgk, List.length_range]
     repeat ((with_reducible refine an ?_ ?_); exact As)
     refine ⟨[(bn, .row 3 1 (List.replicate ps.length (ai 0)) ps.length)], [_, _], _, .refl _, .row (Vws.set (Vws.refl _) (Vw.ofLs (t := 3) (cap := ps.length) (xs := List.replicate ps.length (ai 0)) (by simp only [lk, if_true]) (by rw [List.length_replicate])) k) (LVw.refl _), _, List.Sublist.refl _, ?_⟩
     rw [map_range_set]
     congr 4
     funext q
     by_cases e : q = k
     ·rw [if_pos e, if_pos (by omega), List.map_replicate]
     ·rw [if_neg e]
      by_cases e2 : q < k
      ·rw [if_pos e2, if_pos (by omega)]
      ·rw [if_neg e2, if_neg (by omega)]
    ·rintro vs L' - rfl
     have hK0 : ((List.range ps.length).map fun q => if q < ps.length then AV.sl 1 ((List.replicate ps.length (0 : Int)).map ai) else anil) = knA ps.length (knQ ps order 0) := by
      unfold knA
      apply List.ext_getElem (by simp); intro i h1 h2
      have hi : i < ps.length := by simpa using h1
      simp [knQ, doneF_zero, hi]
     simp only [go_sem]
     rw [hK0]
     repeat (first | ((with_reducible refine AWp.ofC ?_ ?_); exact rfl; simp only [go_sem]) | ((with_reducible refine an ?_ ?_); exact Au))
     refine AWp.range' order.length [12] [2, 6, 9, 10, 44, 45] (fun k vs L => vs = [ai (peakF ps order k)] ∧ RunOk ps order k ∧ L = [(bk, .row 42 1 (knA ps.length (knQ ps order k)) ps.length), (bd, .row 3 1 (dnA ps.length (doneF order k)) ps.length)])
      (by omega) rfl rfl rfl ⟨rfl, fun j hj => by omega, rfl⟩ ?_ ?_
     ·rintro k vs L' hk - ⟨rfl, hR, rfl⟩
      obtain ⟨o1, o2⟩ := hob k hk
      have hgo : (order.map ai).getD k .any = ai (order.getD k 0) := by rw [getD_map hk]; simp [hk]
      have hdk0 : ∀ k, k ≤ order.length → RunOk ps order k → ∀ q, doneF order k q ≤ 1000000 := fun k hk hR q => by
       have := run_le hmx hk hR q
       have h2 := hG.le_nev q
       by_cases hq : q < ps.length
       ·rw [nev_get hq] at h2
        have := hs.evs _ (List.getElem_mem hq); omega
       ·rw [hG.out hq] at this; simp at this; omega
      have hdk := hdk0 k (by omega) hR
      have hok : RunOk ps order (k + 1) ↔ Rdy ps (doneF order k) (order.getD k 0).toNat := ⟨fun h => (h k (by omega)).2, fun h j hj => by
       by_cases e : j = k
       ·subst e; exact ⟨o1, h⟩
       ·exact hR j (by omega)⟩
      have hds := fun q => doneF_succ (order := order) hk o1 q
      obtain ⟨p, hpe⟩ : ∃ p : Nat, order.getD k 0 = (p : Int) := ⟨(order.getD k 0).toNat, by omega⟩
      rw [hpe] at hgo hok hds o2
      simp only [Int.toNat_natCast] at hok hds
      have hp : p < ps.length := by omega
      simp only [go_sem]
      repeat ((with_reducible refine an ?_ ?_); exact As)
      refine AWp.of ?_; simp only [go_sem, hgo]
      repeat (first | ((with_reducible refine AWp.ofC ?_ ?_); exact rfl; simp only [go_sem]) | ((with_reducible refine an ?_ ?_); exact Au))
      refine (PC.view (L := [(bk, .row 42 1 (knA ps.length (knQ ps order k)) ps.length), (bd, .row 3 1 (dnA ps.length (doneF order k)) ps.length)])
       (Vws.cons (.refl _) (Vws.cons (Vw.ofLs (t := 3) (cap := ps.length) (xs := dnA ps.length (doneF order k)) (by simp [lk, n2]) (dnA_length _ _).symm) (Vws.cons (.refl _) .nil))) (prune_ready ps hs hv (doneF order k) hdk p hp) (Own.v _) ?_).val
      simp only [go_sem]
      repeat (first | ((with_reducible refine AWp.ofC ?_ ?_); exact rfl; simp only [go_sem]) | ((with_reducible refine an ?_ ?_); exact Au))
      refine ⟨fun h2 => ?_, fun h2 => ?_⟩
      ·have e : aPeak ps order = .tup [ai 0, ai 11] := by
        unfold aPeak
        rw [if_neg (by rw [hv]; decide), if_neg (by rw [h1]; decide), if_neg fun h => ?_]
        have := hok.1 (h.le (by omega))
        exact h2 this
       rw [e]
       repeat (first | ((with_reducible refine AWp.ofC ?_ ?_); exact rfl; simp only [go_sem]) | ((with_reducible refine an ?_ ?_); exact Au))
       refine ret_eq ?_; simp only [go_sem]
      ·have hR' := hok.2 h2
       have hlt : doneF order k p < (stampF ps p).length := by
        have := run_le hmx (by omega) hR' p
        rw [hds, if_pos rfl] at this; omega
       have hgs : (List.map aRows (List.map (stampF ps) (List.range ps.length))).getD p .any = aRows (stampF ps p) := by
        rw [getD_map (by simpa using hp)]; simp
       have hgd := dnA_get hp (doneF order k)
       have hgv : ((stampF ps p).map aInts).getD (doneF order k p) .any = aInts (stOf (stampF ps) p (doneF order k p)) := by
        rw [getD_map hlt]; simp [stOf, hlt]
       have hgk : (knA ps.length (knQ ps order k)).getD p .any = .sl 1 ((knQ ps order k p).map ai) := map_range_getD hp _
       have hset1 := knA_set (n := ps.length) (p := p) (f := knQ ps order k) (f' := knQ ps order (k + 1)) (x := stOf (stampF ps) p (doneF order k p)) (by unfold knQ; rw [hds, if_pos rfl, if_neg (by omega)]; rfl)
        (fun q hq => by unfold knQ; rw [hds, if_neg (Ne.symm hq)]; rfl)
       have hset2 := dnA_set (n := ps.length) (p := p) (c := doneF order k) (c' := doneF order (k + 1)) (x := (doneF order k p : Int) + 1) (by rw [hds, if_pos rfl]; omega) (fun q hq => by rw [hds, if_neg (Ne.symm hq)]; rfl)
       have hdp := hdk p
       have hrows := known_rows hG hmx (by omega) hR'
       have hkept := prune_kept (knownF ps order (k + 1)) (by rw [known_len]; omega) (by rw [known_len]; omega) (fun r hr => by rw [known_len]; exact (hrows r hr).1) (fun r hr n hn => by
        obtain ⟨j, hj, rfl⟩ := List.getElem_of_mem hn
        have h5 := (hrows r hr).2 j
        have e5 : r.getD j 0 = r[j] := by simp [hj]
        rw [e5] at h5
        have h6 := hdk0 (k + 1) (by omega) hR' j
        omega)
       have e6 : aRows (knownF ps order (k + 1)) = .sl 1 (knA ps.length (knQ ps order (k + 1))) := by rw [← knA_known]; rfl
       rw [e6] at hkept
       refine AWp.seq ?_
       refine AWp.mix mixed [0, 1, 2, 3, 4, 5, 6, 7, 8] (.step 9 (.step 10 (.step 11 (.step 12 (.step 13 .done .done) .done) .done) .done) .done) (by kernel_rfl) ?_; simp only [go_sem, hgs, hgd, hgv, hgk, dnA_length, knA_length, n1, n2]
       repeat ((with_reducible refine an ?_ ?_); exact As)
       rw [hset1]
       repeat ((with_reducible refine an ?_ ?_); exact As)
       refine AWp.of ?_; simp only [go_sem, hgd, dnA_length, n2]
       repeat ((with_reducible refine an ?_ ?_); exact As)
       rw [hset2]
       repeat (first | ((with_reducible refine AWp.ofC ?_ ?_); exact rfl; simp only [go_sem]) | ((with_reducible refine an ?_ ?_); exact Au))
       refine (PC.view (L := [(bk, .row 42 1 (knA ps.length (knQ ps order (k + 1))) ps.length), (bd, .row 3 1 (dnA ps.length (doneF order (k + 1))) ps.length)])
        (Vws.cons (Vw.ofLs (t := 42) (cap := ps.length) (xs := knA ps.length (knQ ps order (k + 1))) (by simp only [lk, if_true]) (knA_length _ _).symm) .nil) hkept (Own.v _) ?_).val
       have hmax : peakF ps order (k + 1) = if peakF ps order k < keptF (knownF ps order (k + 1)) then keptF (knownF ps order (k + 1)) else peakF ps order k := by
        show max (peakF ps order k) (keptF (knownF ps order (k + 1))) = _
        split <;> omega
       simp only [go_sem]
       exact ⟨_, List.Sublist.refl _, by rw [hmax], hR', rfl⟩
     ·rintro vs L' - ⟨rfl, hR, rfl⟩
      have e : aPeak ps order = .tup [ai (peakF ps order order.length), ai 0] := by
       unfold aPeak
       rw [if_neg (by rw [hv]; decide), if_neg (by rw [h1]; decide), if_pos hR]
      rw [e]
      simp only [go_sem]
      repeat (first | ((with_reducible refine AWp.ofC ?_ ?_); exact rfl; simp only [go_sem]) | ((with_reducible refine an ?_ ?_); exact Au))
      refine ret_eq ?_; simp only [go_sem]
end Go.AL
end
section
namespace Go.AL
open Go Go.RowKit
set_option maxRecDepth 4000
theorem pair_unique {ps : List Pr} (hm : msgF ps = none) {p : Nat} (hp : p < ps.length) {i : Nat} (hi : i < ps[p].evs.length) (hk : ps[p].evs[i].kind = 2 ∨ ps[p].evs[i].kind = 3) :
  findIn (evIds ps) ps[p].evs[i].kind ps[p].evs[i].msg = ((p : Int), (i : Int) + 1) := by
 have hev := evIds_get hp hi
 have hlt : off ps p + i < (evIds ps).length := (List.getElem?_eq_some_iff.1 hev).1
 have hpz : pairF ps (off ps p + i) = 0 := by
  unfold msgF at hm
  split at hm
  ·cases hm
  ·rename_i hn
   rw [List.find?_eq_none] at hn
   simpa using hn _ (List.mem_range.2 hlt)
 unfold pairF at hpz
 rw [hev] at hpz
 simp only at hpz
 have hno : ¬ 0 < (findIn ((evIds ps).take (off ps p + i)) ps[p].evs[i].kind ps[p].evs[i].msg).2 := by
  intro h0
  rcases hk with hk | hk
  ·rw [if_pos hk] at hpz; rw [hk] at h0; rw [if_pos h0] at hpz; cases hpz
  ·rw [if_neg (by omega), if_pos hk] at hpz; rw [hk] at h0; rw [if_pos h0] at hpz; cases hpz
 refine findIn_hit hev (fun j y hj hy hc => hno ?_) ⟨rfl, rfl⟩
 have hmem : y ∈ (evIds ps).take (off ps p + i) := by
  refine List.mem_of_getElem? (i := j) ?_
  rw [List.getElem?_take, if_pos hj]; exact hy
 unfold findIn
 cases hf : ((evIds ps).take (off ps p + i)).find? (fun x => decide (x.2.kind = ps[p].evs[i].kind) && decide (x.2.msg = ps[p].evs[i].msg)) with
 | some x => exact evIds_pos ps x (List.mem_of_mem_take (List.mem_of_find?_eq_some hf))
 | none =>
  rw [List.find?_eq_none] at hf
  have := hf y hmem
  simp [hc.1, hc.2] at this
theorem findIn_some {ps : List Pr} {kind m : Int} (h : 0 < (findIn (evIds ps) kind m).2) : ∃ (p : Nat) (hp : p < ps.length) (i : Nat) (hi : i < ps[p].evs.length), findIn (evIds ps) kind m = ((p : Int), (i : Int) + 1) ∧ ps[p].evs[i].kind = kind ∧ ps[p].evs[i].msg = m := by
 obtain ⟨e, he, h1, h2⟩ := findIn_mem h
 obtain ⟨k, hk⟩ := List.getElem?_of_mem he
 obtain ⟨p, hp, i, hi, _, e2⟩ := evIds_inv hk
 have e3 := congrArg Prod.fst e2
 have e4 := congrArg Prod.snd e2
 dsimp only at e3 e4
 subst e4
 exact ⟨p, hp, i, hi, e3, h1, h2⟩
theorem recv_sndr {ps : List Pr} (hm : msgF ps = none) {p : Nat} (hp : p < ps.length) {i : Nat} (hi : i < ps[p].evs.length) (hk : ps[p].evs[i].kind = 3) : 0 < (sndr ps ps[p].evs[i].msg).2 := by
 have hev := evIds_get hp hi
 have hlt : off ps p + i < (evIds ps).length := (List.getElem?_eq_some_iff.1 hev).1
 have hpz : pairF ps (off ps p + i) = 0 := by
  unfold msgF at hm
  split at hm
  ·cases hm
  ·rename_i hn
   rw [List.find?_eq_none] at hn
   simpa using hn _ (List.mem_range.2 hlt)
 unfold pairF at hpz
 rw [hev] at hpz
 simp only at hpz
 rw [if_neg (by omega), if_pos hk] at hpz
 split at hpz
 ·cases hpz
 ·split at hpz
  ·cases hpz
  ·rename_i hs
   have hs' : sendsB ps ps[p].evs[i].peer ps[p].evs[i].msg p = true := by simpa using hs
   unfold sendsB at hs'
   split at hs'
   ·rename_i x hx
    obtain ⟨q, hq, rfl⟩ : ∃ q, ∃ hq : q < ps.length, ps[q] = x := ⟨_, (List.getElem?_eq_some_iff.1 hx).1, (List.getElem?_eq_some_iff.1 hx).2⟩
    obtain ⟨e, he, h⟩ := List.any_eq_true.1 hs'
    simp only [Bool.and_eq_true, decide_eq_true_eq] at h
    obtain ⟨j, hj, rfl⟩ := List.getElem_of_mem he
    have hu := pair_unique hm hq hj (.inl h.1.1)
    unfold sndr
    rw [← h.1.2, ← h.1.1, hu]
    show (0 : Int) < (j : Int) + 1
    omega
   ·cases hs'
def dirL (ps : List Pr) (p i : Nat) : List Eid := (if 0 < i then [((p : Int), (i : Int))] else []) ++ (if (evq ps p i).kind = 3 then [sndr ps (evq ps p i).msg] else [])
theorem dirL_iff {ps : List Pr} (hm : msgF ps = none) {p : Nat} (hp : p < ps.length) {i : Nat} (hi : i < ps[p].evs.length) (z : Eid) : z ∈ dirL ps p i ↔ VEv ps z ∧ Nx ps z ((p : Int), (i : Int) + 1) := by
 unfold dirL
 rw [evq_get hp hi, List.mem_append]
 constructor
 ·rintro (h | h)
  ·split at h
   ·rename_i h0
    simp only [List.mem_singleton] at h
    subst h
    refine ⟨⟨p, hp, i - 1, by omega, by rw [show ((i - 1 : Nat) : Int) + 1 = i by omega]⟩, ?_⟩
    unfold Nx afterL
    simp only [Int.toNat_natCast, List.getElem?_eq_getElem hp, show ((i : Int) - 1).toNat = i - 1 by omega, List.getElem?_eq_getElem (show i - 1 < ps[p].evs.length by omega), List.mem_append]
    refine .inl ?_
    rw [if_pos (by omega)]; simp
   ·cases h
  ·split at h
   ·rename_i hk
    simp only [List.mem_singleton] at h
    have h0 := recv_sndr hm hp hi hk
    obtain ⟨q, hq, j, hj, e, k1, k2⟩ := sndr_some h0
    rw [h, e]
    refine ⟨⟨q, hq, j, hj, rfl⟩, ?_⟩
    unfold Nx afterL
    simp only [Int.toNat_natCast, List.getElem?_eq_getElem hq, show ((j : Int) + 1 - 1).toNat = j by omega, List.getElem?_eq_getElem hj, List.mem_append]
    refine .inr ?_
    have hu := pair_unique hm hp hi (.inr hk)
    rw [hk] at hu
    rw [k2, hu, if_pos ⟨k1, by show (0 : Int) < (i : Int) + 1; omega⟩]; simp
   ·cases h
 ·rintro ⟨⟨q, hq, j, hj, rfl⟩, h⟩
  unfold Nx afterL at h
  simp only [Int.toNat_natCast, List.getElem?_eq_getElem hq, show ((j : Int) + 1 - 1).toNat = j by omega, List.getElem?_eq_getElem hj, List.mem_append] at h
  rcases h with h | h
  ·split at h
   ·simp only [List.mem_singleton, Prod.mk.injEq] at h
    have e1 : p = q := by omega
    have e2 : i = j + 1 := by omega
    subst e1; subst e2
    refine .inl ?_
    rw [if_pos (by omega)]; simp
   ·cases h
  ·split at h
   ·rename_i hc
    simp only [List.mem_singleton] at h
    obtain ⟨p', hp', i', hi', e, k1, k2⟩ := findIn_some hc.2
    rw [e, Prod.mk.injEq] at h
    have e1 : p = p' := by omega
    have e2 : i = i' := by omega
    subst e1; subst e2
    refine .inr ?_
    rw [if_pos k1, k2]
    have hu := pair_unique hm hq hj (.inl hc.1)
    rw [hc.1] at hu
    unfold sndr
    rw [hu]; simp
   ·cases h
theorem Reach.rank {ps : List Pr} {f : Eid → Int} (h : ∀ x, VEv ps x → ∀ y ∈ afterL ps x, f x < f y) {x y : Eid} (hr : Reach ps x y) (hx : VEv ps x) : f x < f y := by
 have key : f x < f y ∧ VEv ps y := by
  induction hr with
  | single hn => exact ⟨h _ hx _ hn, Reach.valid (.single hn) hx⟩
  | tail hr hn ih => exact ⟨Int.lt_trans ih.1 (h _ ih.2 _ hn), Reach.valid (.single hn) ih.2⟩
 exact key.1
theorem cycF_rank {ps : List Pr} (f : Eid → Int) (h : ∀ x ∈ evIds ps, ∀ y ∈ afterL ps x.1, f x.1 < f y) : cycF ps = none := by
 have hv : ∀ x, VEv ps x → ∀ y ∈ afterL ps x, f x < f y := by
  rintro x ⟨p, hp, i, hi, rfl⟩ y hy
  exact h _ (List.mem_of_getElem? (evIds_get hp hi)) y hy
 refine cycF_none fun j y hj hr => ?_
 obtain ⟨p, hp, i, hi, _, rfl⟩ := evIds_inv hj
 exact Int.lt_irrefl _ (hr.rank hv ⟨p, hp, i, hi, rfl⟩)
theorem sum_mono : ∀ (v w : List Int), v.length = w.length → (∀ j, v.getD j 0 ≤ w.getD j 0) → v.sum ≤ w.sum
 | [], [], _, _ => Int.le_refl _
 | [], _ :: _, h, _ => by simp at h
 | _ :: _, [], h, _ => by simp at h
 | a :: v, b :: w, h, hj => by
  have h0 := hj 0
  have ih := sum_mono v w (by simpa using h) fun j => by simpa using hj (j + 1)
  simp only [List.getD_cons_zero] at h0
  simp only [List.sum_cons]; omega
theorem sum_set : ∀ (v : List Int) (p : Nat) (x : Int), p < v.length → (v.set p x).sum = v.sum - v.getD p 0 + x
 | [], p, x, h => by simp at h
 | a :: v, 0, x, _ => by simp only [List.set_cons_zero, List.sum_cons, List.getD_cons_zero]; omega
 | a :: v, p + 1, x, h => by
  have ih := sum_set v p x (by simpa using h)
  simp only [List.set_cons_succ, List.sum_cons, List.getD_cons_succ, ih]; omega
theorem vec_grow {ps : List Pr} {S : Nat → List (List Int)} {p k : Nat} {u : List Int} (hp : p < ps.length) (hl : (rawV ps S p k).length = ps.length) (hu : u.length = ps.length) (h : ∀ j, u.getD j 0 ≤ (rawV ps S p k).getD j 0) : u.sum < (vecV ps S p k).sum := by
 unfold vecV tickV
 rw [sum_set _ _ _ (by omega)]
 have := sum_mono u (rawV ps S p k) (by omega) h
 omega
theorem Gen.raw {ps : List Pr} {S : Nat → List (List Int)} (h : Gen ps S) {p k : Nat} (hk : k < (S p).length) : (rawV ps S p k).length = ps.length ∧ (k ≠ 0 → ∀ j, (stOf S p (k - 1)).getD j 0 ≤ (rawV ps S p k).getD j 0) ∧
  ((evq ps p k).kind = 3 → ∀ j, (stOf S (sndr ps (evq ps p k).msg).1.toNat ((sndr ps (evq ps p k).msg).2 - 1).toNat).getD j 0 ≤ (rawV ps S p k).getD j 0) := by
 obtain ⟨_, _, _, h4⟩ := h.eqn p k hk
 have hpre : (preV ps S p k).length = ps.length := by
  unfold preV
  by_cases h0 : k = 0
  ·rw [if_pos h0]; simp
  ·rw [if_neg h0]; exact (h.bound p _ (by omega)).1
 unfold rawV
 by_cases h3 : (evq ps p k).kind = 3
 ·have hw := h.bound (sndr ps (evq ps p k).msg).1.toNat ((sndr ps (evq ps p k).msg).2 - 1).toNat (by have := h4 h3; omega)
  have hl : (preV ps S p k).length = (stOf S (sndr ps (evq ps p k).msg).1.toNat ((sndr ps (evq ps p k).msg).2 - 1).toNat).length := by rw [hpre, hw.1]
  rw [if_pos h3]
  refine ⟨(joinV_length hl).trans hpre, fun h0 j => ?_, fun _ j => ?_⟩
  ·rw [joinV_getD hl]
   have e : preV ps S p k = stOf S p (k - 1) := by unfold preV; rw [if_neg h0]
   rw [e]; omega
  ·rw [joinV_getD hl]; omega
 ·rw [if_neg h3]
  refine ⟨hpre, fun h0 j => ?_, fun h => absurd h h3⟩
  have e : preV ps S p k = stOf S p (k - 1) := by unfold preV; rw [if_neg h0]
  rw [e]; exact Int.le_refl _
theorem cycF_of_stamps {ps : List Pr} (hm : msgF ps = none) {S : Nat → List (List Int)} (h : Gen ps S) (hall : ∀ p, p < ps.length → nev ps p ≤ (S p).length) : cycF ps = none := by
 refine cycF_rank (fun x => (stOf S x.1.toNat (x.2 - 1).toNat).sum) fun x hx y hy => ?_
 obtain ⟨p, hp, i, hi, rfl⟩ := Nx.valid hy (VEv.of_mem hx)
 obtain ⟨q, hq, j, hj, hxe⟩ := VEv.of_mem hx
 have hin : x.1 ∈ dirL ps p i := (dirL_iff hm hp hi x.1).2 ⟨VEv.of_mem hx, hy⟩
 have hlt : i < (S p).length := by have := hall p hp; rw [nev_get hp] at this; omega
 have hlx : j < (S q).length := by have := hall q hq; rw [nev_get hq] at this; omega
 obtain ⟨r1, r2, r3⟩ := h.raw hlt
 have hbx := h.bound q j hlx
 simp only [Int.toNat_natCast, show ((i : Int) + 1 - 1).toNat = i by omega]
 rw [(h.eqn p i hlt).2.2.1]
 unfold dirL at hin
 rw [List.mem_append] at hin
 rcases hin with hin | hin
 ·split at hin
  ·rename_i h0
   simp only [List.mem_singleton] at hin
   rw [hin]
   simp only [Int.toNat_natCast, show ((i : Int) - 1).toNat = i - 1 by omega]
   exact vec_grow hp r1 (h.bound p _ (by omega)).1 (r2 (by omega))
  ·cases hin
 ·split at hin
  ·rename_i h3
   simp only [List.mem_singleton] at hin
   rw [hxe] at hin
   have e3 := r3 h3
   rw [← hin] at e3
   simp only [Int.toNat_natCast, show ((j : Int) + 1 - 1).toNat = j by omega] at e3
   rw [hxe]
   simp only [Int.toNat_natCast, show ((j : Int) + 1 - 1).toNat = j by omega]
   exact vec_grow hp r1 hbx.1 e3
  ·cases hin
end Go.AL
end
section
namespace Go.AL
open Go Go.RowKit
set_option maxRecDepth 4000
theorem ref12_SameEvent (a b : Ev) (ha : a.asg.length ≤ 1000000) : PC Proofs.Tryz.prog 155 [aEv a, aEv b] (ab (decide (a = b))) := by
 refine PC.enter 59 [.tmp 4] [2, 3] Proofs.Tryz.func155 rfl rfl rfl rfl rfl (by simp) (AWp.of ?_); simp only [go_sem]
 repeat (first | ((with_reducible refine AWp.ofC ?_ ?_); exact rfl; simp only [go_sem]) | ((with_reducible refine an ?_ ?_); exact Au))
 refine ⟨fun h1 => ?_, fun h1 h2 h3 h4 h5 => ?_⟩
 ·repeat (first | ((with_reducible refine AWp.ofC ?_ ?_); exact rfl; simp only [go_sem]) | ((with_reducible refine an ?_ ?_); exact Au))
  refine ret_eq ?_; simp only [go_sem]
  congr 2; symm; apply decide_eq_false; rintro rfl; simp at h1
 ·have hl : a.asg.length = b.asg.length := by omega
  repeat (first | ((with_reducible refine AWp.ofC ?_ ?_); exact rfl; simp only [go_sem]) | ((with_reducible refine an ?_ ?_); exact Au))
  refine AWp.block (AWp.count 5 a.asg.length [] [2, 3] (fun k vs L => L = [] ∧ ∀ (i : Nat) (hi : i < a.asg.length), i < k → a.asg[i] = b.asg[i]) rfl rfl ⟨rfl, by omega⟩ ?_)
  rintro k vs L' hk - ⟨rfl, hI⟩
  simp only [go_sem]
  repeat (first | ((with_reducible refine AWp.ofC ?_ ?_); exact rfl; simp only [go_sem]) | ((with_reducible refine an ?_ ?_); exact Au))
  refine ⟨fun h6 => ?_, fun h6 => ?_⟩
  ·have hka : k < a.asg.length := by omega
   have hkb : k < b.asg.length := by omega
   refine AWp.seq (AWp.block (AWp.seq ?_))
   refine AWp.drawn mixed 11 (by kernel_rfl) ?_; simp only [go_sem, getD_map hka, getD_map hkb]
   repeat ((with_reducible refine an ?_ ?_); exact As)
   repeat (first | ((with_reducible refine AWp.ofC ?_ ?_); exact rfl; simp only [go_sem]) | ((with_reducible refine an ?_ ?_); exact Au))
   refine ⟨fun h7 => ?_, fun h7 h8 => ?_⟩
   ·repeat (first | ((with_reducible refine AWp.ofC ?_ ?_); exact rfl; simp only [go_sem]) | ((with_reducible refine an ?_ ?_); exact Au))
    refine ret_eq ?_; simp only [go_sem]
    congr 2; symm; apply decide_eq_false; rintro rfl; simp at h7
   ·repeat (first | ((with_reducible refine AWp.ofC ?_ ?_); exact rfl; simp only [go_sem]) | ((with_reducible refine an ?_ ?_); exact Au))
    refine ⟨_, List.Sublist.refl _, rfl, fun i hi hik => ?_⟩
    by_cases e : i = k
    ·subst e; exact Prod.ext h7 h8
    ·exact hI i hi (by omega)
  ·repeat (first | ((with_reducible refine AWp.ofC ?_ ?_); exact rfl; simp only [go_sem]) | ((with_reducible refine an ?_ ?_); exact Au))
   refine ret_eq ?_; simp only [go_sem]
   congr 2; symm; apply decide_eq_true
   obtain ⟨k1, k2, k3, k4, k5⟩ := a
   obtain ⟨m1, m2, m3, m4, m5⟩ := b
   simp only [Ev.mk.injEq]
   simp only at h1 h2 h3 h4 h5 hI h6 hl
   exact ⟨h1, h2, h3, h4, List.ext_getElem hl (fun i hi _ => hI i hi (by omega))⟩
theorem ref12_Same (a b : List Pr) (ha : Sm a) : PC Proofs.Tryz.prog 91 [aTr a, aTr b] (ab (decide (a = b))) := by
 have hla := ha.procs
 refine PC.enter 94 [.tmp 4] [2, 3, 6, 7] Proofs.Tryz.func91 rfl rfl rfl rfl rfl (by simp) (AWp.of ?_); simp only [go_sem]
 repeat (first | ((with_reducible refine AWp.ofC ?_ ?_); exact rfl; simp only [go_sem]) | ((with_reducible refine an ?_ ?_); exact Au))
 refine ⟨fun h1 => ?_, fun h1 => ?_⟩
 ·repeat (first | ((with_reducible refine AWp.ofC ?_ ?_); exact rfl; simp only [go_sem]) | ((with_reducible refine an ?_ ?_); exact Au))
  refine ret_eq ?_; simp only [go_sem]
  congr 2; symm; apply decide_eq_false; rintro rfl; simp at h1
 ·have hl : a.length = b.length := by omega
  repeat (first | ((with_reducible refine AWp.ofC ?_ ?_); exact rfl; simp only [go_sem]) | ((with_reducible refine an ?_ ?_); exact Au))
  refine AWp.block (AWp.count 5 a.length [] [2, 3] (fun k vs L => L = [] ∧ ∀ (i : Nat) (hi : i < a.length), i < k → a[i] = b[i]) rfl rfl ⟨rfl, by omega⟩ ?_)
  rintro k vs L' hk - ⟨rfl, hI⟩
  simp only [go_sem]
  repeat (first | ((with_reducible refine AWp.ofC ?_ ?_); exact rfl; simp only [go_sem]) | ((with_reducible refine an ?_ ?_); exact Au))
  refine ⟨fun h2 => ?_, fun h2 => ?_⟩
  ·have hka : k < a.length := by omega
   have hkb : k < b.length := by omega
   have hm := List.getElem_mem hka
   have hev := ha.evs _ hm
   have hvr := ha.vars _ hm
   have hne : a[k] ≠ b[k] → decide (a = b) = false := fun h => decide_eq_false (fun e => h (by subst e; rfl))
   have hA : (List.map aPr a).getD k .any = aPr a[k] := getD_map hka
   have hB : (List.map aPr b).getD k .any = aPr b[k] := getD_map hkb
   have hasg := ha.asg _ hm
   have hxy : a[k] = b[k] → ∀ (i : Nat) (hi : i < a.length), i = k → a[i] = b[i] := by intro h i hi e; subst e; exact h
   generalize a[k] = x at *
   generalize b[k] = y at *
   refine AWp.seq (AWp.block (AWp.cut [2, 3, 5, 6, 7] (fun vs L => L = [] ∧ vs = [.rp 1 [aTr a] 0 0, .rp 1 [aTr b] 0 0, ai k, .rp 3 [aPr x] 0 0, .rp 3 [aPr y] 0 0]) ?_ ?_))
   ·refine AWp.mix mixed [0, 1, 2, 3, 4, 5, 6, 7, 8, 9] (.step 10 (.step 11 (.step 12 (.step 13 .done .done) .done) .done) (.step 11 (.step 10 (.step 12 (.step 13 .done .done) .done) .done) .done)) (by kernel_rfl) ?_; simp only [go_sem, hA, hB]
    repeat ((with_reducible refine an ?_ ?_); exact As)
    refine ⟨fun b1 b2 hb => ?_, fun b1 b2 hb => ?_⟩
    ·have n1 : ¬ b1 = b2 := by omega
     have n2 : ¬ b2 = b1 := by omega
     try simp only [go_sem, n1]
     exact ⟨_, List.Sublist.refl _, by simp⟩
    ·have n1 : ¬ b1 = b2 := by omega
     have n2 : ¬ b2 = b1 := by omega
     try simp only [go_sem, n1, n2]
     exact ⟨_, List.Sublist.refl _, by simp⟩
   ·rintro vs L' - ⟨rfl, rfl⟩
    simp only [go_sem]
    repeat (first | ((with_reducible refine AWp.ofC ?_ ?_); exact rfl; simp only [go_sem]) | ((with_reducible refine an ?_ ?_); exact Au))
    refine ⟨fun h3 => ?_, fun h3 h4 h5 => ?_⟩
    ·repeat (first | ((with_reducible refine AWp.ofC ?_ ?_); exact rfl; simp only [go_sem]) | ((with_reducible refine an ?_ ?_); exact Au))
     refine ret_eq ?_; simp only [go_sem]
     congr 2; symm; apply hne; rintro rfl; simp at h3
    ·have hlv : x.vars.length = y.vars.length := by omega
     have hle : x.evs.length = y.evs.length := by omega
     repeat (first | ((with_reducible refine AWp.ofC ?_ ?_); exact rfl; simp only [go_sem]) | ((with_reducible refine an ?_ ?_); exact Au))
     refine AWp.block (AWp.count 8 x.vars.length [] [2, 3, 5, 6, 7] (fun j vs L => L = [] ∧ ∀ (i : Nat) (hi : i < x.vars.length), i < j → x.vars[i] = y.vars[i]) rfl rfl ⟨rfl, by omega⟩ ?_)
     rintro j vs L' hj - ⟨rfl, hJ⟩
     simp only [go_sem]
     repeat (first | ((with_reducible refine AWp.ofC ?_ ?_); exact rfl; simp only [go_sem]) | ((with_reducible refine an ?_ ?_); exact Au))
     refine ⟨fun h6 => ?_, fun h6 => ?_⟩
     ·have hja : j < x.vars.length := by omega
      have hjb : j < y.vars.length := by omega
      refine AWp.seq (AWp.block (AWp.seq ?_))
      refine AWp.drawn mixed 11 (by kernel_rfl) ?_; simp only [go_sem, getD_map hja, getD_map hjb]
      repeat ((with_reducible refine an ?_ ?_); exact As)
      repeat (first | ((with_reducible refine AWp.ofC ?_ ?_); exact rfl; simp only [go_sem]) | ((with_reducible refine an ?_ ?_); exact Au))
      refine ⟨fun h7 => ?_, fun h7 h8 => ?_⟩
      ·repeat (first | ((with_reducible refine AWp.ofC ?_ ?_); exact rfl; simp only [go_sem]) | ((with_reducible refine an ?_ ?_); exact Au))
       refine ret_eq ?_; simp only [go_sem]
       congr 2; symm; apply hne; rintro rfl; simp at h7
      ·repeat (first | ((with_reducible refine AWp.ofC ?_ ?_); exact rfl; simp only [go_sem]) | ((with_reducible refine an ?_ ?_); exact Au))
       refine ⟨_, List.Sublist.refl _, rfl, fun i hi hij => ?_⟩
       by_cases e : i = j
       ·subst e; exact Prod.ext h7 h8
       ·exact hJ i hi (by omega)
     ·repeat (first | ((with_reducible refine AWp.ofC ?_ ?_); exact rfl; simp only [go_sem]) | ((with_reducible refine an ?_ ?_); exact Au))
      refine AWp.block (AWp.count 9 x.evs.length [] [2, 3, 5, 6, 7] (fun j vs L => L = [] ∧ ∀ (i : Nat) (hi : i < x.evs.length), i < j → x.evs[i] = y.evs[i]) rfl rfl ⟨rfl, by omega⟩ ?_)
      rintro m vs L' hm - ⟨rfl, hM⟩
      simp only [go_sem]
      repeat (first | ((with_reducible refine AWp.ofC ?_ ?_); exact rfl; simp only [go_sem]) | ((with_reducible refine an ?_ ?_); exact Au))
      refine ⟨fun h9 => ?_, fun h9 => ?_⟩
      ·have hma : m < x.evs.length := by omega
       have hmb : m < y.evs.length := by omega
       refine AWp.seq (AWp.block (AWp.seq ?_))
       refine AWp.drawn mixed 10 (by kernel_rfl) ?_; simp only [go_sem, getD_map hma, getD_map hmb]
       repeat ((with_reducible refine an ?_ ?_); exact As)
       repeat ((with_reducible refine an ?_ ?_); exact As)
       refine (ref12_SameEvent x.evs[m] y.evs[m] (hasg _ (List.getElem_mem hma))).val.use ?_; simp only [go_sem]
       repeat (first | ((with_reducible refine AWp.ofC ?_ ?_); exact rfl; simp only [go_sem]) | ((with_reducible refine an ?_ ?_); exact Au))
       refine ⟨fun h7 => ?_, fun h7 => ?_⟩
       ·repeat (first | ((with_reducible refine AWp.ofC ?_ ?_); exact rfl; simp only [go_sem]) | ((with_reducible refine an ?_ ?_); exact Au))
        refine ret_eq ?_; simp only [go_sem]
        congr 2; symm; apply hne; rintro rfl; exact h7 rfl
       ·repeat (first | ((with_reducible refine AWp.ofC ?_ ?_); exact rfl; simp only [go_sem]) | ((with_reducible refine an ?_ ?_); exact Au))
        refine ⟨_, List.Sublist.refl _, rfl, fun i hi hij => ?_⟩
        by_cases e : i = m
        ·subst e; exact h7
        ·exact hM i hi (by omega)
      ·repeat (first | ((with_reducible refine AWp.ofC ?_ ?_); exact rfl; simp only [go_sem]) | ((with_reducible refine an ?_ ?_); exact Au))
       refine ⟨_, List.Sublist.refl _, rfl, fun i hi hik => ?_⟩
       by_cases e : i = k
       ·refine hxy ?_ i hi e
        obtain ⟨k1, k2, k3⟩ := x
        obtain ⟨m1, m2, m3⟩ := y
        simp only [Pr.mk.injEq]
        simp only at h3 hlv hle hJ hM h6 h9
        exact ⟨h3, List.ext_getElem hlv (fun i hi _ => hJ i hi (by omega)), List.ext_getElem hle (fun i hi _ => hM i hi (by omega))⟩
       ·exact hI i hi (by omega)
  ·repeat (first | ((with_reducible refine AWp.ofC ?_ ?_); exact rfl; simp only [go_sem]) | ((with_reducible refine an ?_ ?_); exact Au))
   refine ret_eq ?_; simp only [go_sem]
   congr 2; symm; apply decide_eq_true
   exact List.ext_getElem hl (fun i hi _ => hI i hi (by omega))
end Go.AL
end
