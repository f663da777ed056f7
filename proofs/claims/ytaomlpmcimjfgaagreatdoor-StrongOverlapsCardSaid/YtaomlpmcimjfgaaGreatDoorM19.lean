/- Texts of this claim's proof: WV9, WV14, WV19, WRt, WRt7, WRt2, WRt3. No condition. -/
import Derived.Test.YtaomlpmcimjfgaaGreatDoorM15
import Derived.Test.YtaomlpmcimjfgaaGreatDoorM7
import Derived.Test.YtaomlpmcimjfgaaGreatDoorM18
import Derived.Test.YtaomlpmcimjfgaaGreatDoorM9
import Derived.Test.YtaomlpmcimjfgaaGreatDoorM4
import Derived.Test.YtaomlpmcimjfgaaGreatDoorM10
import Derived.Test.YtaomlpmcimjfgaaGreatDoorM8
section
namespace Go.AL
open Go Go.RowKit
set_option maxRecDepth 4000
theorem ref38_Stretch (ps : List Pr) (hs : Sm ps) (s : Spn3) : PC Proofs.Tryz.prog 52 [aTr ps, aSp s] (ab (!badSp ps s)) := by
 have hpl := hs.procs
 obtain ⟨p, f, t⟩ := s
 have hB : badSp ps (p, f, t) = (decide (p < 0) || (decide ((ps.length : Int) ≤ p) || (decide (f < 0) || (decide (t < f) || decide ((nev ps p.toNat : Int) < t))))) := rfl
 have hA : aSp (p, f, t) = .agg [ai p, ai f, ai t] := rfl
 rw [hA]
 by_cases hp : p.toNat < ps.length
 ·have hgp := getD_map (f := aPr) hp
  have hn := nev_get hp
  have hel := hs.evs _ (List.getElem_mem hp)
  rw [hn] at hB
  generalize ps[p.toNat] = X at *
  refine PC.enter 41 [.tmp 4] [2, 3] Proofs.Tryz.func52 rfl rfl rfl rfl rfl (by simp) (AWp.of ?_); simp only [go_sem]
  repeat (first | ((with_reducible refine AWp.ofC ?_ ?_); exact rfl; simp only [go_sem]) | ((with_reducible refine an ?_ ?_); exact Au))
  repeat (first | (with_reducible refine AWp.seq ?_) | (with_reducible refine AWp.block ?_))
  refine AWp.read mixed [0, 1, 2, 3, 4, 5, 6, 7, 8, 9, 10, 11, 12, 13, 14, 15, 16, 17, 18, 19, 20, 21, 22, 23, 24, 25, 26, 27, 28, 29, 30, 31, 32, 33, 34, 35, 36] (by kernel_rfl) ?_; simp only [go_sem, hgp]
  repeat ((with_reducible refine an ?_ ?_); exact As)
  repeat (first | ((with_reducible refine AWp.ofC ?_ ?_); exact rfl; simp only [go_sem]) | ((with_reducible refine an ?_ ?_); exact Au))
  refine ret_eq ?_; simp only [go_sem]
  rw [hB]
  congr 2
  rw [Bool.eq_iff_iff]
  simp
  omega
 ·have hgp : (ps.map aPr).getD p.toNat .any = .any := by rw [List.getD_eq_getElem?_getD, List.getElem?_eq_none (by simp; omega)]; rfl
  have hbt : badSp ps (p, f, t) = true := by rw [hB]; simp; omega
  rw [hbt]
  by_cases h0 : 0 ≤ p
  ·have hpn : ¬ p < (ps.length : Int) := by omega
   refine PC.enter 41 [.tmp 4] [2, 3] Proofs.Tryz.func52 rfl rfl rfl rfl rfl (by simp) (AWp.of ?_); simp only [go_sem]
   repeat (first | ((with_reducible refine AWp.ofC ?_ ?_); exact rfl; simp only [go_sem]) | ((with_reducible refine an ?_ ?_); exact Au))
   repeat (first | (with_reducible refine AWp.seq ?_) | (with_reducible refine AWp.block ?_))
   refine AWp.read mixed [0, 1, 2, 3, 4, 5, 6, 7, 8, 9, 10, 11, 12, 13, 14, 15, 16, 17, 18, 19, 20, 21, 22, 23, 24, 25, 26, 27, 28, 29, 30, 31, 32, 33, 34, 35, 36] (by kernel_rfl) ?_; simp only [go_sem, hgp, List.getD_nil, hpn, decide_false, Bool.and_false]
   repeat ((with_reducible refine an ?_ ?_); exact As)
   repeat (first | ((with_reducible refine AWp.ofC ?_ ?_); exact rfl; simp only [go_sem]) | ((with_reducible refine an ?_ ?_); exact Au))
   refine ret_eq ?_; simp only [go_sem]
  ·refine PC.enter 41 [.tmp 4] [2, 3] Proofs.Tryz.func52 rfl rfl rfl rfl rfl (by simp) (AWp.of ?_); simp only [go_sem]
   repeat (first | ((with_reducible refine AWp.ofC ?_ ?_); exact rfl; simp only [go_sem]) | ((with_reducible refine an ?_ ?_); exact Au))
   repeat (first | (with_reducible refine AWp.seq ?_) | (with_reducible refine AWp.block ?_))
   refine AWp.read mixed [0, 1, 2, 3, 4, 5, 6, 7, 8, 9, 10, 11, 12, 13, 14, 15, 16, 17, 18, 19, 20, 21, 22, 23, 24, 25, 26, 27, 28, 29, 30, 31, 32, 33, 34, 35, 36] (by kernel_rfl) ?_; simp only [go_sem, hgp, List.getD_nil, h0, decide_false]
   repeat ((with_reducible refine an ?_ ?_); exact As)
   repeat (first | ((with_reducible refine AWp.ofC ?_ ?_); exact rfl; simp only [go_sem]) | ((with_reducible refine an ?_ ?_); exact Au))
   refine ret_eq ?_; simp only [go_sem]
open Classical in
theorem ref38_Begins (ps : List Pr) (hs : Sm ps) (hv : validF ps = true) (a o : Stp) (ha : SpIn ps a) (ho : SpIn ps o) (hao : a.1 ≠ o.1) : PC Proofs.Tryz.prog 45 [aTr ps, aStp a, aStp o] (ab (bgN ps a o)) := by
 obtain ⟨p, f, t⟩ := a
 obtain ⟨q, f', t'⟩ := o
 obtain ⟨h1, h2, h3⟩ := ha
 obtain ⟨k1, k2, k3⟩ := ho
 have h1 : p < ps.length := h1
 have h2 : f ≤ t := h2
 have h3 : t ≤ nev ps p := h3
 have k1 : q < ps.length := k1
 have k3 : t' ≤ nev ps q := k3
 have hao : p ≠ q := hao
 have hb : bgN ps (p, f, t) (q, f', t') = (decide (f = 0) || (decide (t' = nev ps q) || decide ((f : Int) ≤ cAt (ptF ps q t') p))) := rfl
 have hA : aStp (p, f, t) = .agg [ai p, ai f, ai t] := rfl
 have hO : aStp (q, f', t') = .agg [ai q, ai f', ai t'] := rfl
 rw [hA, hO]
 have hgq := getD_map (f := aPr) k1
 have hnq := nev_get k1
 have hnp := nev_get h1
 have hpl := hs.procs
 have helq := hs.evs _ (List.getElem_mem k1)
 by_cases hc : f = 0 ∨ t' = nev ps q
 ·have hbt : bgN ps (p, f, t) (q, f', t') = true := by
   rw [hb]
   rcases hc with hc | hc
   ·rw [decide_eq_true hc]; rfl
   ·rw [decide_eq_true hc]; simp
  rw [hbt]
  rw [hnq] at hc k3
  generalize ps[q] = X at *
  refine PC.enter 39 [.tmp 6] [3, 4, 5] Proofs.Tryz.func45 rfl rfl rfl rfl rfl (by simp) (AWp.of ?_); simp only [go_sem]
  repeat (first | ((with_reducible refine AWp.ofC ?_ ?_); exact rfl; simp only [go_sem]) | ((with_reducible refine an ?_ ?_); exact Au))
  repeat (first | (with_reducible refine AWp.seq ?_) | (with_reducible refine AWp.block ?_))
  refine AWp.read mixed [0, 1, 2, 3, 4, 5, 6, 7, 8, 9, 10, 11, 12, 13, 14, 15] (by kernel_rfl) ?_; simp only [go_sem, hgq]
  repeat ((with_reducible refine an ?_ ?_); exact As)
  repeat (first | ((with_reducible refine AWp.ofC ?_ ?_); exact rfl; simp only [go_sem]) | ((with_reducible refine an ?_ ?_); exact Au))
  refine ⟨fun h => ?_, fun h4 h5 => ?_⟩
  ·repeat (first | ((with_reducible refine AWp.ofC ?_ ?_); exact rfl; simp only [go_sem]) | ((with_reducible refine an ?_ ?_); exact Au))
   refine ret_eq ?_; simp only [go_sem]
  ·omega
 ·have hf0 : f ≠ 0 := fun e => hc (.inl e)
  have htn : t' < ps[q].evs.length := by
   have : t' ≠ nev ps q := fun e => hc (.inr e)
   omega
  obtain ⟨j, rfl⟩ : ∃ j, f = j + 1 := ⟨f - 1, by omega⟩
  have hj : j < ps[p].evs.length := by omega
  rw [decide_eq_false hf0, Bool.false_or, decide_eq_false (by omega), Bool.false_or] at hb
  have hm := (valid_parts hv).2.2
  have hl1 := (valid_len hv).1
  have hpa := ref12_Past ps hs hm hl1 q k1 t' htn
  rw [pastA_eq] at hpa
  have hrr := pastR_get ((q : Int), (t' : Int) + 1) h1 hj
  have hre := reach_pt hv h1 k1 hao htn hj
  have hbb : decide (Reach ps ((p : Int), (j : Int) + 1) ((q : Int), (t' : Int) + 1)) = bgN ps (p, j + 1, t) (q, f', t') := by
   rw [hb, decide_eq_decide]; exact hre
  have hRr : (pastR ps ((q : Int), (t' : Int) + 1) p).getD (j + 1) .any = ab (bgN ps (p, j + 1, t) (q, f', t')) := by
   have e : ((j : Int) + 1).toNat = j + 1 := by omega
   rw [e] at hrr
   rw [hrr, hbb]
  have hRl : (pastR ps ((q : Int), (t' : Int) + 1) p).length = nev ps p + 1 := by unfold pastR; simp
  have hMl : ((List.range ps.length).map fun p => AV.sl 1 (pastR ps ((q : Int), (t' : Int) + 1) p)).length = ps.length := by simp
  have hMg : ((List.range ps.length).map fun p => AV.sl 1 (pastR ps ((q : Int), (t' : Int) + 1) p)).getD p .any = .sl 1 (pastR ps ((q : Int), (t' : Int) + 1) p) := map_range_getD h1 _
  generalize (List.range ps.length).map (fun p => AV.sl 1 (pastR ps ((q : Int), (t' : Int) + 1) p)) = M at *
  generalize pastR ps ((q : Int), (t' : Int) + 1) p = Rw at *
  generalize bgN ps (p, j + 1, t) (q, f', t') = B at *
  have hj1 : ¬ ((j + 1 : Nat) : Int) = 0 := by omega
  have hjt : (((j + 1 : Nat) : Int)).toNat = j + 1 := by omega
  have htt : ¬ (t' : Int) = (ps[q].evs.length : Int) := by omega
  change PC _ _ [_, .agg [ai q, ai ((t' : Int) + 1)]] _ at hpa
  generalize ps[q] = X at *
  refine PC.enter 39 [.tmp 6] [3, 4, 5] Proofs.Tryz.func45 rfl rfl rfl rfl rfl (by simp) (AWp.of ?_); simp only [go_sem]
  repeat (first | ((with_reducible refine AWp.ofC ?_ ?_); exact rfl; simp only [go_sem]) | ((with_reducible refine an ?_ ?_); exact Au))
  repeat (first | (with_reducible refine AWp.seq ?_) | (with_reducible refine AWp.block ?_))
  refine AWp.read mixed [0, 1, 2, 3, 4, 5, 6, 7, 8, 9, 10, 11, 12, 13, 14, 15] (by kernel_rfl) ?_; simp only [go_sem, hgq]
  repeat ((with_reducible refine an ?_ ?_); exact As)
  repeat (first | ((with_reducible refine AWp.ofC ?_ ?_); exact rfl; simp only [go_sem]) | ((with_reducible refine an ?_ ?_); exact Au))
  intro h4 h5
  repeat (first | (with_reducible refine AWp.seq ?_) | (with_reducible refine AWp.block ?_))
  refine AWp.read mixed [0, 1, 2, 3, 4, 5, 6, 7, 8, 9, 10, 11, 12, 13, 14, 15, 16] (by kernel_rfl) ?_; simp only [go_sem]
  repeat ((with_reducible refine an ?_ ?_); exact As)
  refine GCall.use (.sl 1 M) (fun _ => ⟨At, (hpa).val.use ⟨rfl, rfl⟩⟩) ?_; simp only [go_sem, hMg, hRr, hjt]
  repeat ((with_reducible refine an ?_ ?_); exact As)
  repeat (first | ((with_reducible refine AWp.ofC ?_ ?_); exact rfl; simp only [go_sem]) | ((with_reducible refine an ?_ ?_); exact Au))
  refine ret_eq ?_; simp only [go_sem]
end Go.AL
end
section
namespace Go.AL
open Go Go.RowKit
set_option maxRecDepth 4000
theorem ref38_Overlap_bad {ps : List Pr} (hva : PC Proofs.Tryz.prog 42 [aTr ps] (ab false)) (l : List Spn3) : PC Proofs.Tryz.prog 19 [aTr ps, aSps l] (.tup [ab false, ai 1]) := by
 have hR : aSps l = .sl 3 (l.map aSp) := rfl
 rw [hR]
 refine PC.enter 80 [.tmp 4, .tmp 5] [2] Proofs.Tryz.func19 rfl rfl rfl rfl rfl (by simp) (AWp.of ?_); simp only [go_sem]
 repeat (first | ((with_reducible refine AWp.ofC ?_ ?_); exact rfl; simp only [go_sem]) | ((with_reducible refine an ?_ ?_); exact Au))
 repeat ((with_reducible refine an ?_ ?_); exact As)
 refine (hva).val.use ?_; simp only [go_sem]
 repeat (first | ((with_reducible refine AWp.ofC ?_ ?_); exact rfl; simp only [go_sem]) | ((with_reducible refine an ?_ ?_); exact Au))
 refine ret_eq ?_; simp only [go_sem]
theorem dup_at {l : List Spn3} {i k : Nat} (hi : i < l.length) (hk : k < i) (h : l[i].1 = (l[k]'(by omega)).1) : dupSp l i = true := by
 unfold dupSp
 refine List.any_eq_true.2 ⟨l[k]'(by omega), List.mem_take_iff_getElem.2 ⟨k, by omega, rfl⟩, decide_eq_true ?_⟩
 rw [List.getD_eq_getElem?_getD, List.getElem?_eq_getElem hi, Option.getD_some, h]
theorem dup_no {l : List Spn3} {i : Nat} (hi : i < l.length) (h : ∀ k (hk : k < i), l[i].1 ≠ (l[k]'(by omega)).1) : dupSp l i = false := by
 unfold dupSp
 rw [List.any_eq_false]
 intro x hx
 obtain ⟨k, hk, rfl⟩ := List.mem_take_iff_getElem.1 hx
 rw [decide_eq_true_eq, List.getD_eq_getElem?_getD, List.getElem?_eq_getElem hi, Option.getD_some]
 exact fun e => h k (by omega) e.symm
set_option maxHeartbeats 1000000 in
theorem ref38_Overlap (ps : List Pr) (hs : Sm ps) (l : List Spn3) (hl : l.length ≤ 9223372036854775806) : PC Proofs.Tryz.prog 19 [aTr ps, aSps l] (.tup [ab (decide (gvnE ps l = 0) && ovF ps (l.map spN)), ai (gvnE ps l)]) := by
 have h1 := ref12_Valid ps hs
 have hR : aSps l = .sl 3 (l.map aSp) := rfl
 cases hv : validF ps with
 | false =>
  have hE : gvnE ps l = 1 := by unfold gvnE; rw [hv]; rfl
  rw [hv] at h1
  rw [hE]
  exact ref38_Overlap_bad h1 l
 | true =>
  rw [hv] at h1
  have hE0 : gvnE ps l = if 1000 < l.length then 5 else if l.any (badSp ps) = true then 2 else if (List.range l.length).any (dupSp l) = true then 8 else 0 := by unfold gvnE; rw [hv, if_pos rfl]
  rw [hR]
  by_cases hlen : 1000 < l.length
  ·have hli : (1000 : Int) < (l.length : Int) := by omega
   rw [hE0, if_pos hlen]
   refine PC.enter 80 [.tmp 4, .tmp 5] [2] Proofs.Tryz.func19 rfl rfl rfl rfl rfl (by simp) (AWp.of ?_); simp only [go_sem]
   repeat (first | ((with_reducible refine AWp.ofC ?_ ?_); exact rfl; simp only [go_sem]) | ((with_reducible refine an ?_ ?_); exact Au))
   repeat ((with_reducible refine an ?_ ?_); exact As)
   refine (h1).val.use ?_; simp only [go_sem]
   repeat (first | ((with_reducible refine AWp.ofC ?_ ?_); exact rfl; simp only [go_sem, hli]) | ((with_reducible refine an ?_ ?_); exact Au))
   refine ret_eq ?_; simp only [go_sem]
   rfl
  ·have hli : ¬ (1000 : Int) < (l.length : Int) := by omega
   rw [if_neg hlen] at hE0
   have hovI := ov_iff (ps := ps) (l := l.map spN)
   generalize hov : ovF ps (l.map spN) = OV at *
   generalize gvnE ps l = E at *
   refine PC.enter 80 [.tmp 4, .tmp 5] [2] Proofs.Tryz.func19 rfl rfl rfl rfl rfl (by simp) (AWp.of ?_); simp only [go_sem]
   repeat (first | ((with_reducible refine AWp.ofC ?_ ?_); exact rfl; simp only [go_sem]) | ((with_reducible refine an ?_ ?_); exact Au))
   repeat ((with_reducible refine an ?_ ?_); exact As)
   refine (h1).val.use ?_; simp only [go_sem]
   repeat (first | ((with_reducible refine AWp.ofC ?_ ?_); exact rfl; simp only [go_sem, hli]) | ((with_reducible refine an ?_ ?_); exact Au))
   refine (AWp.block (AWp.count 6 l.length [] [1, 2] (fun i vs L => L = [] ∧ ∀ j (hj : j < l.length), j < i → badSp ps l[j] = false) rfl rfl ⟨rfl, fun _ _ h => by omega⟩ ?_))
   rintro i vs L hil - ⟨rfl, hI⟩
   simp only [go_sem]
   by_cases hi : i < l.length
   ·have hii : (i : Int) < l.length := by omega
    have hgi := getD_map (f := aSp) hi
    have hst := ref38_Stretch ps hs l[i]
    have hbad : badSp ps l[i] = true → E = 2 := fun h => by
     rw [hE0, if_pos (List.any_eq_true.2 ⟨_, List.getElem_mem hi, h⟩)]
    have hI2 : badSp ps l[i] = false → ∀ j (hj : j < l.length), j < i + 1 → badSp ps l[j] = false := fun h j hj hji => by
     by_cases e : j = i
     ·subst e; exact h
     ·exact hI j hj (by omega)
    clear hI
    generalize badSp ps l[i] = B at *
    generalize l[i] = s at *
    obtain ⟨p, f, t⟩ := s
    have hgi : (l.map aSp).getD i .any = .agg [ai p, ai f, ai t] := hgi
    change PC _ _ [_, .agg [ai p, ai f, ai t]] _ at hst
    repeat (first | ((with_reducible refine AWp.ofC ?_ ?_); exact rfl; simp only [go_sem, hii]) | ((with_reducible refine an ?_ ?_); exact Au))
    repeat (first | (with_reducible refine AWp.seq ?_) | (with_reducible refine AWp.block ?_))
    refine AWp.read mixed [0, 1, 2, 3, 4, 5, 6] (by kernel_rfl) ?_; simp only [go_sem, hgi, hii]
    repeat ((with_reducible refine an ?_ ?_); exact As)
    refine GCall.use (ab (!B)) (fun _ => ⟨At, (hst).val.use ⟨rfl, rfl⟩⟩) ?_; simp only [go_sem]
    repeat ((with_reducible refine an ?_ ?_); exact As)
    cases B with
    | true =>
     rw [hbad rfl]
     repeat (first | ((with_reducible refine AWp.ofC ?_ ?_); exact rfl; simp only [go_sem]) | ((with_reducible refine an ?_ ?_); exact Au))
     refine ret_eq ?_; simp only [go_sem]
     rfl
    | false =>
     repeat (first | ((with_reducible refine AWp.ofC ?_ ?_); exact rfl; simp only [go_sem]) | ((with_reducible refine an ?_ ?_); exact Au))
     exact ⟨_, List.Sublist.refl _, rfl, hI2 rfl⟩
   ·have hii : ¬ (i : Int) < l.length := by omega
    have hall : ∀ s ∈ l, badSp ps s = false := fun s hs => by
     obtain ⟨j, hj, rfl⟩ := List.getElem_of_mem hs
     exact hI j hj (by omega)
    have hnb : ¬ l.any (badSp ps) = true := by
     rw [Bool.not_eq_true, List.any_eq_false]
     intro x hx
     rw [hall x hx]; decide
    rw [if_neg hnb] at hE0
    clear hI hnb
    repeat (first | ((with_reducible refine AWp.ofC ?_ ?_); exact rfl; simp only [go_sem, hii]) | ((with_reducible refine an ?_ ?_); exact Au))
    refine (AWp.block (AWp.count 7 l.length [] [1, 2] (fun i vs L => L = [] ∧ ∀ j, j < i → dupSp l j = false) rfl rfl ⟨rfl, fun _ h => by omega⟩ ?_))
    rintro i vs L hil - ⟨rfl, hJ⟩
    simp only [go_sem]
    by_cases hi : i < l.length
    ·have hii : (i : Int) < l.length := by omega
     have htw : dupSp l i = true → E = 8 := fun h => by
      rw [hE0, if_pos (List.any_eq_true.2 ⟨i, List.mem_range.2 hi, h⟩)]
     have hJ2 : dupSp l i = false → ∀ j, j < i + 1 → dupSp l j = false := fun h j hji => by
      by_cases e : j = i
      ·subst e; exact h
      ·exact hJ j (by omega)
     have hda := fun k hk h => dup_at (l := l) (i := i) (k := k) hi hk h
     have hdn := dup_no (l := l) hi
     clear hJ
     repeat (first | ((with_reducible refine AWp.ofC ?_ ?_); exact rfl; simp only [go_sem, hii]) | ((with_reducible refine an ?_ ?_); exact Au))
     refine (AWp.block (AWp.count 8 i [] [1, 2, 7] (fun k vs L => L = [] ∧ ∀ k' (hk : k' < i), k' < k → l[i].1 ≠ (l[k']'(by omega)).1) rfl rfl ⟨rfl, fun _ _ h => by omega⟩ ?_))
     rintro k vs L hki - ⟨rfl, hK⟩
     simp only [go_sem]
     by_cases hk : k < i
     ·have hkk : (k : Int) < (i : Int) := by omega
      have hgi := getD_map (f := aSp) hi
      have hgk := getD_map (f := aSp) (l := l) (k := k) (by omega)
      have hd := hda k hk
      have hK2 : l[i].1 ≠ (l[k]'(by omega)).1 → ∀ k' (hk : k' < i), k' < k + 1 → l[i].1 ≠ (l[k']'(by omega)).1 := fun h k' hk' h' => by
       by_cases e : k' = k
       ·subst e; exact h
       ·exact hK k' hk' (by omega)
      have ei : aSp l[i] = .agg [ai l[i].1, ai l[i].2.1, ai l[i].2.2] := rfl
      have ek : aSp (l[k]'(by omega)) = .agg [ai (l[k]'(by omega)).1, ai (l[k]'(by omega)).2.1, ai (l[k]'(by omega)).2.2] := rfl
      rw [ei] at hgi
      rw [ek] at hgk
      repeat (first | ((with_reducible refine AWp.ofC ?_ ?_); exact rfl; simp only [go_sem, hkk]) | ((with_reducible refine an ?_ ?_); exact Au))
      repeat (first | (with_reducible refine AWp.seq ?_) | (with_reducible refine AWp.block ?_))
      refine AWp.read mixed [0, 1, 2, 3, 4, 5, 6, 7, 8, 9, 10] (by kernel_rfl) ?_; simp only [go_sem, hgi, hgk]
      repeat ((with_reducible refine an ?_ ?_); exact As)
      repeat (first | ((with_reducible refine AWp.ofC ?_ ?_); exact rfl; simp only [go_sem]) | ((with_reducible refine an ?_ ?_); exact Au))
      refine ⟨fun h => ?_, fun h => ?_⟩
      ·rw [htw (hd h)]
       repeat (first | ((with_reducible refine AWp.ofC ?_ ?_); exact rfl; simp only [go_sem]) | ((with_reducible refine an ?_ ?_); exact Au))
       refine ret_eq ?_; simp only [go_sem]
       rfl
      ·repeat (first | ((with_reducible refine AWp.ofC ?_ ?_); exact rfl; simp only [go_sem]) | ((with_reducible refine an ?_ ?_); exact Au))
       exact ⟨_, List.Sublist.refl _, rfl, hK2 h⟩
     ·have hkk : ¬ (k : Int) < (i : Int) := by omega
      have hdf := hdn fun k' hk' => hK k' hk' (by omega)
      repeat (first | ((with_reducible refine AWp.ofC ?_ ?_); exact rfl; simp only [go_sem, hkk]) | ((with_reducible refine an ?_ ?_); exact Au))
      exact ⟨_, List.Sublist.refl _, rfl, hJ2 hdf⟩
    ·have hii : ¬ (i : Int) < l.length := by omega
     have hnd : ¬ (List.range l.length).any (dupSp l) = true := by
      rw [Bool.not_eq_true, List.any_eq_false]
      intro x hx
      rw [hJ x (by have := List.mem_range.1 hx; omega)]; decide
     have hdist : ∀ i k (hi : i < l.length) (hk : k < l.length), i ≠ k → l[i].1 ≠ l[k].1 := fun a c ha hc hac e => by
      rcases Nat.lt_or_gt_of_ne hac with h | h
      ·have := dup_at (l := l) (i := c) (k := a) hc h e.symm
       rw [hJ c (by omega)] at this; cases this
      ·have := dup_at (l := l) (i := a) (k := c) ha h e
       rw [hJ a (by omega)] at this; cases this
     rw [if_neg hnd] at hE0
     subst hE0
     rw [decide_eq_true rfl, Bool.true_and]
     clear hJ hnd
     obtain ⟨_, hin⟩ := sps_stp hall
     have hel : ∀ i (hi : i < l.length), SpIn ps (spN l[i]) ∧ aSp l[i] = aStp (spN l[i]) ∧ (spN l[i]).1 = l[i].1 := fun i hi => by
      obtain ⟨a1, a2, a3⟩ := bad_not (hall l[i] (List.getElem_mem hi))
      exact ⟨a1, a2, by rw [congrArg Prod.fst a3]; rfl⟩
     have hnl : (l.map spN).length = l.length := List.length_map _
     have hov1 : (∀ i k (hi : i < l.length) (hk : k < l.length), i ≠ k → bgN ps (spN l[i]) (spN l[k]) = true) → OV = true := fun h => by
      rw [hovI]
      intro i k hi hk hik
      rw [List.getElem_map, List.getElem_map]
      exact h i k (by omega) (by omega) hik
     have hov0 : ∀ i k (hi : i < l.length) (hk : k < l.length), i ≠ k → bgN ps (spN l[i]) (spN l[k]) = false → OV = false := fun i k hi hk hik h => by
      cases hO : OV with
      | false => rfl
      | true =>
       have := hovI.1 hO i k (by omega) (by omega) hik
       rw [List.getElem_map, List.getElem_map, h] at this; cases this
     have hbg : ∀ i k (hi : i < l.length) (hk : k < l.length), i ≠ k → PC Proofs.Tryz.prog 45 [aTr ps, aSp l[i], aSp l[k]] (ab (bgN ps (spN l[i]) (spN l[k]))) := fun i k hi hk hik => by
      obtain ⟨a1, a2, a3⟩ := hel i hi
      obtain ⟨c1, c2, c3⟩ := hel k hk
      rw [a2, c2]
      exact ref38_Begins ps hs hv _ _ a1 c1 fun e => hdist i k hi hk hik (by rw [← a3, ← c3, e])
     clear hovI hov hin hall hdist hel
     repeat (first | ((with_reducible refine AWp.ofC ?_ ?_); exact rfl; simp only [go_sem, hii]) | ((with_reducible refine an ?_ ?_); exact Au))
     refine (AWp.block (AWp.count 9 l.length [] [1, 2] (fun i vs L => L = [] ∧ ∀ a c (ha : a < l.length) (hc : c < l.length), a < i → a ≠ c → bgN ps (spN l[a]) (spN l[c]) = true) rfl rfl ⟨rfl, fun _ _ _ _ h => by omega⟩ ?_))
     rintro i vs L hil - ⟨rfl, hA⟩
     simp only [go_sem]
     by_cases hi : i < l.length
     ·have hii : (i : Int) < l.length := by omega
      have hA2 : (∀ c (hc : c < l.length), i ≠ c → bgN ps (spN l[i]) (spN l[c]) = true) → ∀ a c (ha : a < l.length) (hc : c < l.length), a < i + 1 → a ≠ c → bgN ps (spN l[a]) (spN l[c]) = true := fun h a c ha hc hai hac => by
       by_cases e : a = i
       ·subst e; exact h c hc hac
       ·exact hA a c ha hc (by omega) hac
      clear hA
      repeat (first | ((with_reducible refine AWp.ofC ?_ ?_); exact rfl; simp only [go_sem, hii]) | ((with_reducible refine an ?_ ?_); exact Au))
      refine (AWp.block (AWp.count 10 l.length [] [1, 2, 9] (fun k vs L => L = [] ∧ ∀ c (hc : c < l.length), c < k → i ≠ c → bgN ps (spN l[i]) (spN l[c]) = true) rfl rfl ⟨rfl, fun _ _ h => by omega⟩ ?_))
      rintro k vs L hkl - ⟨rfl, hB⟩
      simp only [go_sem]
      by_cases hk : k < l.length
      ·have hkk : (k : Int) < l.length := by omega
       have hgi := getD_map (f := aSp) hi
       have hgk := getD_map (f := aSp) hk
       have hb := hbg i k hi hk
       have h0 := hov0 i k hi hk
       have hB2 : (i ≠ k → bgN ps (spN l[i]) (spN l[k]) = true) → ∀ c (hc : c < l.length), c < k + 1 → i ≠ c → bgN ps (spN l[i]) (spN l[c]) = true := fun h c hc hck hic => by
        by_cases e : c = k
        ·subst e; exact h hic
        ·exact hB c hc (by omega) hic
       have ei : aSp l[i] = .agg [ai l[i].1, ai l[i].2.1, ai l[i].2.2] := rfl
       have ek : aSp l[k] = .agg [ai l[k].1, ai l[k].2.1, ai l[k].2.2] := rfl
       rw [ei] at hgi hb
       rw [ek] at hgk hb
       clear hB hbg hov0
       generalize bgN ps (spN l[i]) (spN l[k]) = BB at *
       repeat (first | ((with_reducible refine AWp.ofC ?_ ?_); exact rfl; simp only [go_sem, hkk]) | ((with_reducible refine an ?_ ?_); exact Au))
       by_cases hik : i = k
       ·have hki : (i : Int) = (k : Int) := by omega
        repeat (first | (with_reducible refine AWp.seq ?_) | (with_reducible refine AWp.block ?_))
        refine AWp.read mixed [0, 1, 2, 3, 4, 5, 6, 7, 8, 9, 10, 11, 12, 13, 14, 15] (by kernel_rfl) ?_; simp only [go_sem, hgk, hkk, hki]
        repeat ((with_reducible refine an ?_ ?_); exact As)
        refine GCall.use .any (fun h => absurd h (by simp)) ?_
        simp only [go_sem]
        repeat (first | ((with_reducible refine AWp.ofC ?_ ?_); exact rfl; simp only [go_sem]) | ((with_reducible refine an ?_ ?_); exact Au))
        exact ⟨_, List.Sublist.refl _, rfl, hB2 fun h => absurd hik h⟩
       ·have hki : ¬ (i : Int) = (k : Int) := by omega
        have hb := hb hik
        repeat (first | (with_reducible refine AWp.seq ?_) | (with_reducible refine AWp.block ?_))
        refine AWp.read mixed [0, 1, 2, 3, 4, 5, 6, 7, 8, 9, 10, 11, 12, 13, 14, 15] (by kernel_rfl) ?_; simp only [go_sem, hgi, hgk, hkk, hki]
        repeat ((with_reducible refine an ?_ ?_); exact As)
        repeat ((with_reducible refine an ?_ ?_); exact As)
        refine GCall.use (ab BB) (fun _ => ⟨At, (hb).val.use ⟨rfl, rfl⟩⟩) ?_; simp only [go_sem]
        repeat ((with_reducible refine an ?_ ?_); exact As)
        cases BB with
        | true =>
         repeat (first | ((with_reducible refine AWp.ofC ?_ ?_); exact rfl; simp only [go_sem]) | ((with_reducible refine an ?_ ?_); exact Au))
         exact ⟨_, List.Sublist.refl _, rfl, hB2 fun _ => rfl⟩
        | false =>
         rw [h0 hik rfl]
         repeat (first | ((with_reducible refine AWp.ofC ?_ ?_); exact rfl; simp only [go_sem]) | ((with_reducible refine an ?_ ?_); exact Au))
         refine ret_eq ?_; simp only [go_sem]
      ·have hkk : ¬ (k : Int) < l.length := by omega
       have hA3 := hA2 fun c hc hic => hB c hc (by omega) hic
       repeat (first | ((with_reducible refine AWp.ofC ?_ ?_); exact rfl; simp only [go_sem, hkk]) | ((with_reducible refine an ?_ ?_); exact Au))
       exact ⟨_, List.Sublist.refl _, rfl, hA3⟩
     ·have hii : ¬ (i : Int) < l.length := by omega
      rw [hov1 fun a c ha hc hac => hA a c ha hc (by omega) hac]
      repeat (first | ((with_reducible refine AWp.ofC ?_ ?_); exact rfl; simp only [go_sem, hii]) | ((with_reducible refine an ?_ ?_); exact Au))
      refine ret_eq ?_; simp only [go_sem]
end Go.AL
end
section
namespace Go.AL
open Go Go.RowKit
set_option maxRecDepth 4000
theorem law38_StrongOverlaps (ps : List Pr) (l : List Spn3) (hpl : ps.length ≤ 9223372036854775807) (hev : ∀ p ∈ ps, p.evs.length ≤ 9223372036854775807) : PC Proofs.Tryz.prog 4 [aTr ps, aSps l] (ab true) := by
 have haw := law38_awake
 have hfew := law38_few ps hpl hev 60
 have hR : aSps l = .sl 3 (l.map aSp) := rfl
 cases hf : fw38 ps 60 with
 | false =>
  rw [hf] at hfew
  rw [hR]
  refine PC.enter 52 [.tmp 4] [2] Proofs.Tryz.func4 rfl rfl rfl rfl rfl (by simp) (AWp.of ?_); simp only [go_sem]
  repeat (first | ((with_reducible refine AWp.ofC ?_ ?_); exact rfl; simp only [go_sem]) | ((with_reducible refine an ?_ ?_); exact Au))
  repeat ((with_reducible refine an ?_ ?_); exact As)
  refine (haw).val.use ?_; simp only [go_sem]
  repeat ((with_reducible refine an ?_ ?_); exact As)
  refine GCall.use (ab false) (fun _ => ⟨At, (hfew).val.use ⟨rfl, rfl⟩⟩) ?_; simp only [go_sem]
  repeat ((with_reducible refine an ?_ ?_); exact As)
  repeat (first | ((with_reducible refine AWp.ofC ?_ ?_); exact rfl; simp only [go_sem]) | ((with_reducible refine an ?_ ?_); exact Au))
  repeat ((with_reducible refine an ?_ ?_); exact As)
  refine (haw).val.use ?_; simp only [go_sem]
  repeat (first | ((with_reducible refine AWp.ofC ?_ ?_); exact rfl; simp only [go_sem]) | ((with_reducible refine an ?_ ?_); exact Au))
  refine ret_eq ?_; simp only [go_sem]
 | true =>
  rw [hf] at hfew
  have hvd := vd38 hf
  by_cases hout : (30 < l.length ∧ l.length ≤ 1000) ∨ 1010 < l.length
  ·rw [hR]
   rcases hout with ⟨h1, h2⟩ | h1
   ·have i1 : (30 : Int) < l.length := by omega
    have i2 : (l.length : Int) ≤ 1000 := by omega
    refine PC.enter 52 [.tmp 4] [2] Proofs.Tryz.func4 rfl rfl rfl rfl rfl (by simp) (AWp.of ?_); simp only [go_sem]
    repeat (first | ((with_reducible refine AWp.ofC ?_ ?_); exact rfl; simp only [go_sem]) | ((with_reducible refine an ?_ ?_); exact Au))
    repeat ((with_reducible refine an ?_ ?_); exact As)
    refine (haw).val.use ?_; simp only [go_sem]
    repeat ((with_reducible refine an ?_ ?_); exact As)
    refine GCall.use (ab true) (fun _ => ⟨At, (hfew).val.use ⟨rfl, rfl⟩⟩) ?_; simp only [go_sem, i1, i2]
    repeat ((with_reducible refine an ?_ ?_); exact As)
    repeat (first | ((with_reducible refine AWp.ofC ?_ ?_); exact rfl; simp only [go_sem]) | ((with_reducible refine an ?_ ?_); exact Au))
    repeat ((with_reducible refine an ?_ ?_); exact As)
    refine (haw).val.use ?_; simp only [go_sem]
    repeat (first | ((with_reducible refine AWp.ofC ?_ ?_); exact rfl; simp only [go_sem]) | ((with_reducible refine an ?_ ?_); exact Au))
    refine ret_eq ?_; simp only [go_sem]
   ·have i1 : (30 : Int) < l.length := by omega
    have i2 : ¬ (l.length : Int) ≤ 1000 := by omega
    have i3 : (1010 : Int) < l.length := by omega
    refine PC.enter 52 [.tmp 4] [2] Proofs.Tryz.func4 rfl rfl rfl rfl rfl (by simp) (AWp.of ?_); simp only [go_sem]
    repeat (first | ((with_reducible refine AWp.ofC ?_ ?_); exact rfl; simp only [go_sem]) | ((with_reducible refine an ?_ ?_); exact Au))
    repeat ((with_reducible refine an ?_ ?_); exact As)
    refine (haw).val.use ?_; simp only [go_sem]
    repeat ((with_reducible refine an ?_ ?_); exact As)
    refine GCall.use (ab true) (fun _ => ⟨At, (hfew).val.use ⟨rfl, rfl⟩⟩) ?_; simp only [go_sem, i1, i2, i3]
    repeat ((with_reducible refine an ?_ ?_); exact As)
    repeat (first | ((with_reducible refine AWp.ofC ?_ ?_); exact rfl; simp only [go_sem]) | ((with_reducible refine an ?_ ?_); exact Au))
    repeat ((with_reducible refine an ?_ ?_); exact As)
    refine (haw).val.use ?_; simp only [go_sem]
    repeat (first | ((with_reducible refine AWp.ofC ?_ ?_); exact rfl; simp only [go_sem]) | ((with_reducible refine an ?_ ?_); exact Au))
    refine ret_eq ?_; simp only [go_sem]
  ·have hl : l.length ≤ 1010 := by omega
   obtain ⟨B, E, h1, h2⟩ : ∃ (B : Bool) (E : Int), PC Proofs.Tryz.prog 18 [aTr ps, aSps l] (.tup [ab B, ai E]) ∧ PC Proofs.Tryz.prog 19 [aTr ps, aSps l] (.tup [ab B, ai E]) := by
    cases hv : validF ps with
    | true => exact ⟨_, _, strong_Overlap ps (hvd.sm hv) l (by omega), ref38_Overlap ps (hvd.sm hv) l (by omega)⟩
    | false =>
     have hva := hvd.val
     have hrv := hvd.rval
     rw [hv] at hva hrv
     exact ⟨_, _, strong_Overlap_bad hva l, ref38_Overlap_bad hrv l⟩
   rw [hR] at h1 h2 ⊢
   by_cases h30 : l.length ≤ 30
   ·have i1 : ¬ (30 : Int) < l.length := by omega
    have i3 : ¬ (1010 : Int) < l.length := by omega
    refine PC.enter 52 [.tmp 4] [2] Proofs.Tryz.func4 rfl rfl rfl rfl rfl (by simp) (AWp.of ?_); simp only [go_sem]
    repeat (first | ((with_reducible refine AWp.ofC ?_ ?_); exact rfl; simp only [go_sem]) | ((with_reducible refine an ?_ ?_); exact Au))
    repeat ((with_reducible refine an ?_ ?_); exact As)
    refine (haw).val.use ?_; simp only [go_sem]
    repeat ((with_reducible refine an ?_ ?_); exact As)
    refine GCall.use (ab true) (fun _ => ⟨At, (hfew).val.use ⟨rfl, rfl⟩⟩) ?_; simp only [go_sem, i1, i3]
    repeat ((with_reducible refine an ?_ ?_); exact As)
    repeat (first | ((with_reducible refine AWp.ofC ?_ ?_); exact rfl; simp only [go_sem]) | ((with_reducible refine an ?_ ?_); exact Au))
    repeat ((with_reducible refine an ?_ ?_); exact As)
    refine (h1).val.use ?_; simp only [go_sem]
    repeat (first | ((with_reducible refine AWp.ofC ?_ ?_); exact rfl; simp only [go_sem]) | ((with_reducible refine an ?_ ?_); exact Au))
    repeat ((with_reducible refine an ?_ ?_); exact As)
    refine (h2).val.use ?_; simp only [go_sem]
    repeat (first | ((with_reducible refine AWp.ofC ?_ ?_); exact rfl; simp only [go_sem]) | ((with_reducible refine an ?_ ?_); exact Au))
    refine ret_eq ?_; simp only [go_sem]
   ·have i1 : (30 : Int) < l.length := by omega
    have i2 : ¬ (l.length : Int) ≤ 1000 := by omega
    have i3 : ¬ (1010 : Int) < l.length := by omega
    refine PC.enter 52 [.tmp 4] [2] Proofs.Tryz.func4 rfl rfl rfl rfl rfl (by simp) (AWp.of ?_); simp only [go_sem]
    repeat (first | ((with_reducible refine AWp.ofC ?_ ?_); exact rfl; simp only [go_sem]) | ((with_reducible refine an ?_ ?_); exact Au))
    repeat ((with_reducible refine an ?_ ?_); exact As)
    refine (haw).val.use ?_; simp only [go_sem]
    repeat ((with_reducible refine an ?_ ?_); exact As)
    refine GCall.use (ab true) (fun _ => ⟨At, (hfew).val.use ⟨rfl, rfl⟩⟩) ?_; simp only [go_sem, i1, i2, i3]
    repeat ((with_reducible refine an ?_ ?_); exact As)
    repeat (first | ((with_reducible refine AWp.ofC ?_ ?_); exact rfl; simp only [go_sem]) | ((with_reducible refine an ?_ ?_); exact Au))
    repeat ((with_reducible refine an ?_ ?_); exact As)
    refine (h1).val.use ?_; simp only [go_sem]
    repeat (first | ((with_reducible refine AWp.ofC ?_ ?_); exact rfl; simp only [go_sem]) | ((with_reducible refine an ?_ ?_); exact Au))
    repeat ((with_reducible refine an ?_ ?_); exact As)
    refine (h2).val.use ?_; simp only [go_sem]
    repeat (first | ((with_reducible refine AWp.ofC ?_ ?_); exact rfl; simp only [go_sem]) | ((with_reducible refine an ?_ ?_); exact Au))
    refine ret_eq ?_; simp only [go_sem]
end Go.AL
end
section
namespace Go.AL
open Go Go.RowKit
set_option maxRecDepth 100000
section
variable {H : Type} {enc : TypeId × Value → H} {W : World}
theorem rdAsg : Rd enc Proofs.Tryz.prog W 120 2 aAsg (fun _ => True) :=
 (Rd.struct (ts := [3, 3]) Proofs.Tryz.underlying120 rfl rfl (by kernel_rfl) (by kernel_rfl)
  (.cons (Rd.int Proofs.Tryz.underlying3) (fun _ => ⟨rfl, rfl⟩) (.cons (Rd.int Proofs.Tryz.underlying3) (fun _ => ⟨rfl, rfl⟩) .nil))).map (fun (y : Int × Int × Unit) => (y.1, y.2.1)) (fun _ => rfl) (fun _ _ => trivial)
theorem rdAsgs : Rd enc Proofs.Tryz.prog W 68 1 aAsgs (fun _ => True) :=
 (Rd.slice Proofs.Tryz.underlying68 (by kernel_rfl : Program.cellsOf Proofs.Tryz.prog 120 = 2) (by decide) rdAsg).map id (fun _ => rfl) (fun _ _ => trivial)
theorem rdVar : Rd enc Proofs.Tryz.prog W 74 2 aVar (fun _ => True) :=
 (Rd.struct (ts := [9, 3]) Proofs.Tryz.underlying74 rfl rfl (by kernel_rfl) (by kernel_rfl)
  (.cons (Rd.str Proofs.Tryz.underlying9) (fun _ => ⟨rfl, rfl⟩) (.cons (Rd.int Proofs.Tryz.underlying3) (fun _ => ⟨rfl, rfl⟩) .nil))).map (fun (y : ByteArray × Int × Unit) => (y.1, y.2.1)) (fun _ => rfl) (fun _ _ => trivial)
theorem rdVars : Rd enc Proofs.Tryz.prog W 63 1 aVars (fun _ => True) :=
 (Rd.slice Proofs.Tryz.underlying63 (by kernel_rfl : Program.cellsOf Proofs.Tryz.prog 74 = 2) (by decide) rdVar).map id (fun _ => rfl) (fun _ _ => trivial)
theorem rdEv : Rd enc Proofs.Tryz.prog W 70 5 aEv (fun _ => True) :=
 (Rd.struct (ts := [3, 3, 3, 3, 68]) Proofs.Tryz.underlying70 rfl rfl (by kernel_rfl) (by kernel_rfl)
  (.cons (Rd.int Proofs.Tryz.underlying3) (fun _ => ⟨rfl, rfl⟩) (.cons (Rd.int Proofs.Tryz.underlying3) (fun _ => ⟨rfl, rfl⟩) (.cons (Rd.int Proofs.Tryz.underlying3) (fun _ => ⟨rfl, rfl⟩)
   (.cons (Rd.int Proofs.Tryz.underlying3) (fun _ => ⟨rfl, rfl⟩) (.cons rdAsgs (fun _ => ⟨rfl, rfl⟩) .nil)))))).map (fun (y : Int × Int × Int × Int × List (Int × Int) × Unit) => ⟨y.1, y.2.1, y.2.2.1, y.2.2.2.1, y.2.2.2.2.1⟩) (fun _ => rfl) (fun _ _ => trivial)
end
end Go.AL
end
section
namespace Go.AL
open Go Go.RowKit
set_option maxRecDepth 100000
section
variable {H : Type} {enc : TypeId × Value → H} {W : World}
theorem rdEvsM : Rd enc Proofs.Tryz.prog W 64 1 aEvs (fun l => l.length ≤ maxLen) :=
 (Rd.slice Proofs.Tryz.underlying64 (by kernel_rfl : Program.cellsOf Proofs.Tryz.prog 70 = 5) (by decide) rdEv).map id (fun _ => rfl) (fun _ h => h.1)
theorem rdPrM : Rd enc Proofs.Tryz.prog W 66 3 aPr (fun p => p.evs.length ≤ maxLen) :=
 (Rd.struct (ts := [9, 63, 64]) Proofs.Tryz.underlying66 rfl rfl (by kernel_rfl) (by kernel_rfl)
  (.cons (Rd.str Proofs.Tryz.underlying9) (fun _ => ⟨rfl, rfl⟩) (.cons rdVars (fun _ => ⟨rfl, rfl⟩) (.cons rdEvsM (fun _ => ⟨rfl, rfl⟩) .nil)))).map (fun (y : ByteArray × List (ByteArray × Int) × List Ev × Unit) => ⟨y.1, y.2.1, y.2.2.1⟩) (fun _ => rfl) (fun _ h => h.2.2.1)
theorem rdPrsM : Rd enc Proofs.Tryz.prog W 22 1 aPrs (fun l => l.length ≤ maxLen ∧ ∀ p ∈ l, p.evs.length ≤ 9223372036854775807) :=
 (Rd.slice Proofs.Tryz.underlying22 (by kernel_rfl : Program.cellsOf Proofs.Tryz.prog 66 = 3) (by decide) rdPrM).map id (fun _ => rfl) (fun _ h => h)
theorem rdTrM : Rd enc Proofs.Tryz.prog W 24 1 aTr (fun l => l.length ≤ maxLen ∧ ∀ p ∈ l, p.evs.length ≤ 9223372036854775807) :=
 (Rd.struct (ts := [22]) Proofs.Tryz.underlying24 rfl rfl (by kernel_rfl) (by kernel_rfl) (.cons rdPrsM (fun _ => ⟨rfl, rfl⟩) .nil)).map (fun (y : List Pr × Unit) => y.1) (fun _ => rfl) (fun _ h => h.1)
end
end Go.AL
end
section
namespace Go.AL
open Go Go.RowKit
set_option maxRecDepth 100000
def aPdC : Pd → List AV | .mk k n p q s l => [ai k, ai n, ai p, ai q, astr s, .sl 6 (l.map aPd)]
section
variable {H : Type} {enc : TypeId × Value → H} {W : World}
end
end Go.AL
end
section
namespace Go.AL
open Go Go.RowKit
set_option maxRecDepth 100000
section
variable {H : Type} {enc : TypeId × Value → H} {W : World}
theorem Rd.bool {P : Program} {t : TypeId} (ht : P.underlying t = some .bool) : Rd enc P W t 1 ab (fun _ => True) := by
 intro fuel cs x h
 obtain ⟨n, rfl, _⟩ := DataW.trod_bool ht h
 refine ⟨n, trivial, ⟨rfl, rfl⟩, rfl, fun i c u h1 h2 => ?_⟩
 cases i with
 | zero => cases h1; cases h2; exact .v _
 | succ i => cases h2
theorem rdSpan : Rd enc Proofs.Tryz.prog W 57 3 aSp (fun _ => True) :=
 (Rd.struct (ts := [3, 3, 3]) Proofs.Tryz.underlying57 rfl rfl (by kernel_rfl) (by kernel_rfl)
  (.cons (Rd.int Proofs.Tryz.underlying3) (fun _ => ⟨rfl, rfl⟩) (.cons (Rd.int Proofs.Tryz.underlying3) (fun _ => ⟨rfl, rfl⟩) (.cons (Rd.int Proofs.Tryz.underlying3) (fun _ => ⟨rfl, rfl⟩) .nil)))).map (fun (y : Int × Int × Int × Unit) => (y.1, y.2.1, y.2.2.1)) (fun _ => rfl) (fun _ _ => trivial)
theorem rdSpans : Rd enc Proofs.Tryz.prog W 31 1 aSps (fun _ => True) :=
 (Rd.slice Proofs.Tryz.underlying31 (by kernel_rfl : Program.cellsOf Proofs.Tryz.prog 57 = 3) (by decide) rdSpan).map id (fun _ => rfl) (fun _ _ => trivial)
end
end Go.AL
end
